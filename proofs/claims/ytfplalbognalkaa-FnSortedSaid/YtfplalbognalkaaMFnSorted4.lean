/- Rows are sorted: the program's function. -/
import Derived.Test.YtfplalbognalkaaMFnSorted3
set_option linter.unusedSimpArgs false
set_option linter.unusedVariables false
set_option linter.unnecessarySimpa false
set_option linter.constructorNameAsVariable false
namespace Go.Proofs.Ytfplalbognalkaa.Ab
open Go
theorem ok109 (c : List Row) (hc : ∀ r ∈ c, Cl r) (hlen : c.length ≤ 1073741824) : SP 109 [] c (srt c) := by
  intro bb
  refine procOf mixed p109 (sp_side (fun _ => rfl) fun _ => rfl) fun A Pr hA hP => ?_
  obtain ⟨n, hn⟩ : ∃ n, n = c.length := ⟨_, rfl⟩
  obtain ⟨ds0, hds0⟩ : ∃ ds, ds = dsR c := ⟨_, rfl⟩
  obtain ⟨dsF, hdsF⟩ : ∃ ds, ds = dsR (srt c) := ⟨_, rfl⟩
  rw [← hn, ← hds0, ← hdsF]
  have k1 : ∀ z : Int, z = n → Proc Try.prog 160 (fun t => [.vec (t 0) n 1, .int z, cmpD]) (fun _ => [.vec bb 1 ds0]) (fun _ => .tup []) (fun _ => [.vec bb 1 dsF]) := fun z hz =>
    sp_hide (ok160 c hc hlen (by omega)) hn hds0 hdsF bb
  cbv
  repeat' first | with_reducible rfl | with_reducible refine And.intro ?_ ?_ | ((with_reducible intro hcc); first | (cases hcc; done) | skip) | ((with_reducible show goC _ _ _ _ _ _ _ _); cbv) | ((with_reducible show goOps _ _ _ _ _); cbv) | ((with_reducible show okWr _ _ = _); rfl) | ((with_reducible show A.call _ _ _ _ _ 160 _ _ _); have hc := k1 (↑n) rfl; refine callK_pr hA hP [0] (by rfl) (by exact ⟨rfl, trivial⟩) (Wks.refl _) ?_ (fun _ _ => hc) hc.side; cbv) | ((with_reducible refine hA.fin_pl _ _ _ ?_); cbv) | ((with_reducible refine hA.len _ _ _ _ _ fun z hz hb => ?_); cbv) | (simp only [hA.natLit, hA.natOf, hA.natCast]; cbv)
  all_goals try simp only [hA.add, hA.sub, hA.mul, hA.neg, hA.div, hA.mod, hA.mn, hA.mx, hA.eq, hA.lt, hA.le, hA.nat, hA.R, hA.lep, hA.ltp, hA.seq, inR, n_cast, Int.ofNat_eq_natCast, Option.getD_some, Option.getD_none] at *
  all_goals first
    | exact sp_fin hA hdsF rfl rfl rfl rfl
    | omega
    | (trace_state; fail)
theorem dsR_e (c : List Row) : ∃ xs : List E, dsR c = xs.map .e := ⟨c.map fun r => .sl (r.map vr), by simp [dsR]⟩
/-- A new slice with the rows of another one. -/
abbrev NewR (fn : FuncId) (args : List D) (bb : Bool) (c c' : List Row) : Prop := Proc Try.prog fn (fun t => .vec (t 0) c.length 1 :: args) (fun _ => [.vec bb 1 (dsR c)]) (fun t => .vec (t 1) c'.length 1) (fun _ => [.vec bb 1 (dsR c), .vec (decide (0 < c'.length)) 1 (dsR c')])
theorem newR_side {args : List D} {bb b2 : Bool} {n m : Nat} {c c' c2 : List Row} (ha : ∀ t, rens t args = args) (hl : ∀ m, lts m args = true) : Side (fun t => .vec (t 0) n 1 :: args) (fun _ => [.vec bb 1 (dsR c)]) (fun t => .vec (t 1) m 1) (fun _ => [.vec bb 1 (dsR c2), .vec b2 1 (dsR c')]) :=
  ⟨fun t => by simp [rens, D.ren, ha], by simp [lts, D.lt, hl], fun t => by simp [O.ren, dsR_ren], by intro o ho; simp at ho; subst ho; simp [O.lt, dsR_lt], fun t => rfl, fun t => by simp [O.ren, dsR_ren], by simp⟩
theorem newR_fin {A : Ar} (hA : A.Ok) {bb b2 : Bool} {c' c2 : List Row} {m j : Nat} {l0 l' : List O} {ds1 ds2 : List D} {b3 : Bool} (hl : l0.length = 1) (h0 : hpF l' 0 = .vec bb 1 ds1) (h1 : hpF l' j = .vec b3 1 ds2) (hj : (0 == j) = false) (hb : b3 = b2) (hd1 : ds1 = dsR c2) (hd2 : ds2 = dsR c') {ds1' ds2' : List D} (hd1' : ds1' = dsR c2) (hd2' : ds2' = dsR c') : A.finv l0 l' (.vec j m 1) [.vec bb 1 ds1', .vec b2 1 ds2'] (.vec 1 m 1) := by
  subst hb; subst hd1; subst hd2; subst hd1'; subst hd2'
  exact hA.finv _ _ _ _ _ (FinV.ren [0, j] (fun _ => [.vec bb 1 (dsR c2), .vec b3 1 (dsR c')]) (fun t => .vec (t 1) m 1) (by rw [hl]; simp [ndB, firstB]; simpa using hj) (.inl rfl) ⟨h0, h1, trivial⟩ (fun t => rfl) rfl (fun t => by simp [O.ren, dsR_ren])
    (by intro o ho; simp at ho; rcases ho with rfl | rfl <;> simp [O.lt, dsR_lt]))
set_option maxRecDepth 100000 in
theorem ok108 (c : List Row) (hlen : c.length ≤ 1073741824) : NewR 108 [] true c c := by
  refine procOf mixed p108 (newR_side (fun _ => rfl) fun _ => rfl) fun A Pr hA hP => ?_
  obtain ⟨n, hn⟩ : ∃ n, n = c.length := ⟨_, rfl⟩
  obtain ⟨ds0, hds0⟩ : ∃ ds, ds = dsR c := ⟨_, rfl⟩
  obtain ⟨b0, hb0⟩ : ∃ b, b = decide (0 < n) := ⟨_, rfl⟩
  rw [← hn, ← hds0, ← hb0]
  cbv
  repeat' first | with_reducible rfl | with_reducible refine And.intro ?_ ?_ | ((with_reducible intro hcc); first | (cases hcc; done) | skip) | ((with_reducible show goC _ _ _ _ _ _ _ _); cbv) | ((with_reducible show goOps _ _ _ _ _); cbv) | ((with_reducible show okWr _ _ = _); rfl) | ((with_reducible refine hA.fin_pl _ _ _ ?_); cbv) | ((with_reducible refine hA.app _ _ _ _ _ ⟨?_, fun zs m hzs hm => ?_⟩); rotate_left; cbv) | ((with_reducible refine hA.app0 _ _ _ ⟨?_, fun m hm => ?_⟩); rotate_left; cbv) | ((with_reducible refine hA.alt _ _ (Or.inl ?_)); cbv) | ((with_reducible refine hA.appv _ _ _ _ _ _ ⟨?_, fun bb m ds hbb hm hds => ?_⟩); rotate_left; cbv) | ((with_reducible refine hA.vcut _ _ _ _ ⟨?_, fun cs hcs => ?_⟩); rotate_left; cbv) | ((with_reducible refine hA.appw _ _ _ _ _ _ _ ⟨?_, fun bb m ds hbb hm hds => ?_⟩); rotate_left; cbv) | (simp only [hA.natLit, hA.natOf, hA.natCast]; cbv)
  all_goals try simp only [hA.add, hA.sub, hA.mul, hA.neg, hA.div, hA.mod, hA.mn, hA.mx, hA.eq, hA.lt, hA.le, hA.nat, hA.R, hA.lep, hA.ltp, hA.seq, inR, n_cast, Int.ofNat_eq_natCast, Option.getD_some, Option.getD_none] at *
  all_goals first
    | (have e1 : m = n := (by omega)
       have e2 : ds = dsR c := (by rw [hds, hcs, hds0, show (dsR c).take (n * 1) = dsR c from List.take_of_length_le (by rw [dsR_len]; omega)]; rfl)
       have e3 : bb = b0 := (by rw [hbb, hb0, Bool.false_or])
       rw [e1]
       exact newR_fin hA rfl rfl rfl rfl e3 hds0 e2 hds0 hds0)
    | (rw [hds0, List.take_of_length_le (by rw [dsR_len]; omega)]; exact dsR_e c)
    | omega
    | (trace_state; fail)
set_option maxRecDepth 100000 in
theorem ok54 (c : List Row) (hc : ∀ r ∈ c, Cl r) (hlen : c.length ≤ 1073741824) : NewR 54 [cmpD] true c (srt c) := by
  refine procOf mixed p54 (newR_side (fun _ => rfl) fun _ => rfl) fun A Pr hA hP => ?_
  obtain ⟨n, hn⟩ : ∃ n, n = c.length := ⟨_, rfl⟩
  obtain ⟨ds0, hds0⟩ : ∃ ds, ds = dsR c := ⟨_, rfl⟩
  obtain ⟨b0, hb0⟩ : ∃ b, b = decide (0 < n) := ⟨_, rfl⟩
  obtain ⟨dsF, hdsF⟩ : ∃ ds, ds = dsR (srt c) := ⟨_, rfl⟩
  have h97 : Proc Try.prog 108 (fun t => [.vec (t 0) n 1]) (fun _ => [.vec true 1 ds0]) (fun t => .vec (t 1) n 1) (fun _ => [.vec true 1 ds0, .vec b0 1 ds0]) := by
    have := ok108 c hlen
    rw [NewR, ← hn, ← hds0, ← hb0] at this
    exact this
  have h98 : Proc Try.prog 109 (fun t => [.vec (t 0) n 1, cmpD]) (fun _ => [.vec b0 1 ds0]) (fun _ => .tup []) (fun _ => [.vec b0 1 dsF]) := sp_hide (ok109 c hc hlen) hn hds0 hdsF b0
  rw [srt_len, ← hn, ← hds0, ← hb0, ← hdsF]
  cbv
  repeat' first | with_reducible rfl | with_reducible refine And.intro ?_ ?_ | ((with_reducible intro hcc); first | (cases hcc; done) | skip) | ((with_reducible show goC _ _ _ _ _ _ _ _); cbv) | ((with_reducible show goOps _ _ _ _ _); cbv) | ((with_reducible show okWr _ _ = _); rfl) | ((with_reducible show A.call _ _ _ _ _ 108 _ _ _); have hc := h97; refine callK_pr hA hP [0] (by rfl) (by exact ⟨rfl, trivial⟩) (Wks.refl _) ?_ (fun _ _ => hc) hc.side; cbv) | ((with_reducible show A.call _ _ _ _ _ 109 _ _ _); have hc := h98; refine callK_pr hA hP [1] (by rfl) (by exact ⟨rfl, trivial⟩) (Wks.refl _) ?_ (fun _ _ => hc) hc.side; cbv) | ((with_reducible refine hA.fin_pl _ _ _ ?_); cbv) | (simp only [hA.natLit, hA.natOf, hA.natCast]; cbv)
  all_goals try simp only [hA.add, hA.sub, hA.mul, hA.neg, hA.div, hA.mod, hA.mn, hA.mx, hA.eq, hA.lt, hA.le, hA.nat, hA.R, hA.lep, hA.ltp, hA.seq, inR, n_cast, Int.ofNat_eq_natCast, Option.getD_some, Option.getD_none] at *
  all_goals first
    | exact newR_fin hA rfl rfl rfl rfl rfl hds0 hdsF hds0 hdsF
    | omega
    | (trace_state; fail)
def clR (r : Row) : Row := r.map clean
theorem clR_cl (r : Row) : Cl (clR r) := fun v hv h => by
  obtain ⟨p, _, rfl⟩ := List.mem_map.1 hv
  unfold clean at h ⊢
  split <;> simp_all
set_option maxRecDepth 100000 in
set_option maxHeartbeats 1000000 in
theorem ok53 (l : Row) (es : List (List E)) (he : es = l.map vr) (hlen : es.length ≤ 1048576) : Plain Try.prog 53 [.e (.sl es)] (.e (.sl ((clR l).map vr))) := okOf mixed p53 fun A P hA hP => (by
  have hl1 : es.length = l.length := by rw [he]; simp
  obtain ⟨ts, hts⟩ : ∃ ts, ts = (clR l).map vr := ⟨_, rfl⟩
  have hl2 : ts.length = es.length := by rw [hts, hl1, clR]; simp
  have hes : ∀ e ∈ ts, e.length = 2 := by
    rw [hts]
    intro e h
    obtain ⟨p, _, rfl⟩ := List.mem_map.1 h
    rfl
  rw [← hts]
  cbv
  repeat' first | with_reducible rfl | with_reducible refine And.intro ?_ ?_ | ((with_reducible intro hcc); first | (cases hcc; done) | skip) | ((with_reducible show goC _ _ _ _ _ _ _ _); cbv) | ((with_reducible show goOps _ _ _ _ _); cbv) | ((with_reducible show okWr _ _ = _); rfl) | ((with_reducible refine hA.fin_pl _ _ _ ?_); cbv) | ((with_reducible refine hA.len _ _ _ _ _ fun z hz hb => ?_); cbv) | ((with_reducible refine hA.off _ _ _ _ fun b hb => ?_); cbv) | ((with_reducible refine hA.rep _ _ _ fun ds m hds hm => ?_); cbv) | ((with_reducible refine hA.st _ _ _ _ _ ⟨?_, fun ds hds => ?_⟩); rotate_left; cbv) | ((with_reducible refine hA.alt _ _ (Or.inl ?_)); cbv) | ((with_reducible refine hA.sapp _ _ _ ⟨?_, fun sl hsl => ?_⟩); rotate_left; cbv) | (simp only [hA.natLit, hA.natOf, hA.natCast]; cbv)
  all_goals try simp only [hA.add, hA.sub, hA.mul, hA.neg, hA.div, hA.mod, hA.mn, hA.mx, hA.eq, hA.lt, hA.le, hA.nat, hA.R, hA.lep, hA.ltp, hA.seq, inR, n_cast, Int.ofNat_eq_natCast, Option.getD_some, Option.getD_none] at *
  · omega
  · omega
  · refine hA.loopI (fun n s => ∃ (i : Int) (xs : List (List E)), 0 ≤ i ∧ n + i = es.length ∧ xs.length = es.length ∧ (∀ e ∈ xs, e.length = 2) ∧ (∀ j : Nat, j < i → xs[j]? = ts[j]?) ∧
        s = ⟨[(11, .int i), (10, .int z), (9, .e (.sl es)), (3, .bs 0 0 m 2), (2, .zs)], [.box (xs.flatten.map .e)]⟩) es.length _
      (Weak.keep (env' := [(11, .int 0), (10, .int z), (9, .e (.sl es)), (3, .bs 0 0 m 2), (2, .zs)]) ⟨rfl, rfl, rfl, rfl, rfl, trivial⟩)
      ⟨0, List.replicate m [E.bool false, E.int 0], by omega, by omega, by simp; omega, by simp, fun j hj => by omega, by rw [← buf_zero, hm]; rw [hds]; rfl⟩ ?_
    rintro n s K ⟨i, xs, h0, h1, h2, h3, h4, rfl⟩ hK
    obtain ⟨ys, hys⟩ : ∃ ys, ys = xs.flatten.map D.e := ⟨_, rfl⟩
    have hyl : ys.length = xs.length * 2 := by rw [hys, List.length_map, flatten_len h3]
    rw [← hys]
    by_cases hin : (0 : Int) ≤ i ∧ i < es.length
    · obtain ⟨⟨b1, v1⟩, e1, q1⟩ := row_val he hin
      obtain ⟨⟨b2, v2⟩, hcl⟩ : ∃ q, q = clean (b1, v1) := ⟨_, rfl⟩
      have h96 : Plain Try.prog 107 [dVal b1 v1] (dVal b2 v2) := by have := ok107 b1 v1; rw [← hcl] at this; exact this
      have hrow : ts[i.toNat]? = some [E.bool b2, E.int v2] := by
        have q2 : l[i.toNat]? = some (b1, v1) := by
          have h : i.toNat < l.length := by omega
          have e2 : es.getD i.toNat [] = vr l[i.toNat] := by rw [he]; simp [List.getD, h]
          rw [e2] at e1
          simp only [vr, List.cons.injEq, E.v.injEq, Value.bool.injEq, Value.int.injEq, true_and, and_true] at e1
          rw [List.getElem?_eq_getElem h]
          exact congrArg some (Prod.ext e1.1 e1.2)
        rw [hts, clR, List.map_map, List.getElem?_map, q2]
        simp [← hcl]
      clear hcl he hts
      cbv
      repeat' first | with_reducible rfl | with_reducible refine And.intro ?_ ?_ | ((with_reducible intro hcc); first | (cases hcc; done) | skip) | ((with_reducible show goC _ _ _ _ _ _ _ _); cbv) | ((with_reducible show goOps _ _ _ _ _); cbv) | ((with_reducible show okWr _ _ = _); rfl) | ((with_reducible refine callK_eq hA hP ?_ ?_ ?_ (Wks.refl _) (fun _ _ => h96)); exact rfl; exact rfl; cbv) | ((with_reducible refine hA.row es _ _ ⟨hin, fun row hrow => ?_⟩); rw [e1] at hrow; subst hrow; cbv) | ((with_reducible refine hA.fin_pl _ _ _ ?_); cbv) | ((with_reducible refine hA.len _ _ _ _ _ fun z hz hb => ?_); cbv) | ((with_reducible refine hA.off _ _ _ _ fun b hb => ?_); cbv) | ((with_reducible refine hA.rep _ _ _ fun ds m hds hm => ?_); cbv) | ((with_reducible refine hA.st _ _ _ _ _ ⟨?_, fun ds hds => ?_⟩); rotate_left; cbv) | ((with_reducible refine hA.alt _ _ (Or.inl ?_)); cbv) | ((with_reducible refine hA.sapp _ _ _ ⟨?_, fun sl hsl => ?_⟩); rotate_left; cbv) | (simp only [hA.natLit, hA.natOf, hA.natCast]; cbv)
      all_goals try simp only [hA.add, hA.sub, hA.mul, hA.neg, hA.div, hA.mod, hA.mn, hA.mx, hA.eq, hA.lt, hA.le, hA.nat, hA.R, hA.lep, hA.ltp, hA.seq, inR, n_cast, Int.ofNat_eq_natCast, Option.getD_some, Option.getD_none] at *
      all_goals first
        | (show _ < (m : Int); omega)
        | omega
        | (have hb' : b = i.toNat * 2 := by omega
           refine hK _ (n - 1) _ (by omega) (Weak.ren (l0 := []) [0] (fun t => [(11, .int (i + 1)), (10, .int z), (9, .e (.sl es)), (3, .bs (t 0) 0 m 2), (2, .zs)]) (fun _ => [.box ((xs.set i.toNat [E.bool b2, E.int v2]).flatten.map .e)]) rfl
               ⟨.inl rfl, .inl rfl, .inl rfl, .inl rfl, .inl rfl, trivial⟩ ⟨?_, trivial⟩ ⟨fun t => rfl, rfl, fun t => by simp only [List.map_cons, List.map_nil, O.ren, rens_e], by intro o ho; rw [List.mem_singleton] at ho; subst ho; simp only [O.lt, lts_e]⟩)
             ⟨i + 1, xs.set i.toNat [E.bool b2, E.int v2], by omega, by omega, by simp [h2], fun e h => ?_, fun j hj => ?_, rfl⟩
           · show O.box _ = O.box _
             congr 1
             rw [hds, hys, hb']
             exact buf_set (k := 2) (by omega) h3 (i := i.toNat) (show i.toNat < xs.length by omega) (r := [E.bool b2, E.int v2]) rfl
           · rcases List.mem_or_eq_of_mem_set h with h | rfl
             · exact h3 e h
             · rfl
           · by_cases hji : (j : Int) < i
             · rw [List.getElem?_set_ne (show i.toNat ≠ j by omega)]; exact h4 j hji
             · have : j = i.toNat := by omega
               subst this
               rw [List.getElem?_set_self (show i.toNat < xs.length by omega), hrow])
        | (clear hK h4; simp at *; omega)
        | (trace_state; fail)
    · have hxe : xs = ts := by
        refine List.ext_getElem? fun j => ?_
        by_cases hj : (j : Int) < i
        · exact h4 j hj
        · rw [List.getElem?_eq_none (by omega), List.getElem?_eq_none (by omega)]
      cbv
      repeat' first | with_reducible rfl | with_reducible refine And.intro ?_ ?_ | ((with_reducible intro hcc); first | (cases hcc; done) | skip) | ((with_reducible show goC _ _ _ _ _ _ _ _); cbv) | ((with_reducible show goOps _ _ _ _ _); cbv) | ((with_reducible show okWr _ _ = _); rfl) | (exfalso; simp only [hA.lt, hA.sub, decide_eq_true_eq, decide_eq_false_iff_not, n_cast] at *; omega) | ((with_reducible refine hA.fin_bs (es := ts) ?_ ?_ hes)) | ((with_reducible refine hA.fin_pl _ _ _ ?_); cbv) | ((with_reducible refine hA.len _ _ _ _ _ fun z hz hb => ?_); cbv) | ((with_reducible refine hA.off _ _ _ _ fun b hb => ?_); cbv) | ((with_reducible refine hA.rep _ _ _ fun ds m hds hm => ?_); cbv) | ((with_reducible refine hA.st _ _ _ _ _ ⟨?_, fun ds hds => ?_⟩); rotate_left; cbv) | ((with_reducible refine hA.alt _ _ (Or.inl ?_)); cbv) | ((with_reducible refine hA.sapp _ _ _ ⟨?_, fun sl hsl => ?_⟩); rotate_left; cbv) | (simp only [hA.natLit, hA.natOf, hA.natCast]; cbv)
      all_goals try simp only [hA.add, hA.sub, hA.mul, hA.neg, hA.div, hA.mod, hA.mn, hA.mx, hA.eq, hA.lt, hA.le, hA.nat, hA.R, hA.lep, hA.ltp, hA.seq, inR, n_cast, Int.ofNat_eq_natCast, Option.getD_some, Option.getD_none] at *
      all_goals first
        | (rw [hys, hxe]; rfl)
        | omega
        | (clear hK h4 he; grind; done)
        | (trace_state; fail))
end Go.Proofs.Ytfplalbognalkaa.Ab
/- The code of functions, in the small language. -/
namespace Go.Proofs.Ytfplalbognalkaa.Ab
open Go
def c28 : F := ⟨12, [(.tmp 4)], (.seq (.reg [⟨(some 2), none, (.box (.s 0))⟩, ⟨(some 4), none, (.mov (.c (.int 0)))⟩]) (.seq (.reg [⟨(some 5), none, (.fadr 0 (.s 2))⟩, ⟨(some 6), none, (.load false 1 (.s 5))⟩, ⟨(some 7), none, (.mov (.s 1))⟩, ⟨(some 8), none, (.call 72 [(.s 6), (.s 7)])⟩, ⟨(some 1), none, (.mov (.s 8))⟩]) (.seq (.seq (.reg [⟨(some 9), none, (.mov (.s 1))⟩, ⟨(some 10), none, (.bin .lss (.s 9) (.c (.int 0)))⟩]) (.cond (.s 10) (.seq (.reg [⟨(some 4), none, (.mov (.c (.int (-1))))⟩]) .ret) .skip)) (.seq (.reg [⟨(some 11), none, (.mov (.s 1))⟩, ⟨(some 4), none, (.mov (.s 11))⟩]) .ret))))⟩
theorem p28 : prepF Try.prog 28 = some c28 := by kernel_rfl
def c31 : F := ⟨9, [(.cell 2 true 1)], (.seq (.reg [⟨(some 1), none, (.box (.s 0))⟩, ⟨(some 2), none, (.alloc [(.e (.sl []))])⟩]) (.seq (.reg [⟨(some 3), none, (.alloc [(.e (.sl []))])⟩]) (.seq (.reg [⟨(some 4), none, (.fadr 0 (.s 1))⟩, ⟨(some 5), none, (.load false 1 (.s 4))⟩, ⟨(some 6), none, (.call 76 [(.s 5)])⟩, ⟨(some 7), none, (.fadr 0 (.s 3))⟩, ⟨none, none, (.store false 1 (.s 7) (.s 6))⟩]) (.seq (.reg [⟨(some 8), none, (.load true 1 (.s 3))⟩, ⟨none, none, (.store true 1 (.s 2) (.s 8))⟩]) .ret))))⟩
theorem p31 : prepF Try.prog 31 = some c31 := by kernel_rfl
def c34 : F := ⟨11, [(.tmp 4)], (.seq (.reg [⟨(some 2), none, (.box (.s 0))⟩, ⟨(some 3), none, (.box (.s 1))⟩, ⟨(some 4), none, (.mov (.c (.bool false)))⟩]) (.seq (.seq (.reg [⟨(some 5), none, (.fadr 0 (.s 2))⟩, ⟨(some 6), none, (.load false 1 (.s 5))⟩, ⟨(some 7), none, (.fadr 0 (.s 3))⟩, ⟨(some 8), none, (.load false 1 (.s 7))⟩, ⟨(some 9), none, (.call 79 [(.s 6), (.s 8)])⟩, ⟨(some 10), none, (.un .not (.s 9))⟩]) (.cond (.s 10) (.seq (.reg [⟨(some 4), none, (.mov (.c (.bool false)))⟩]) .ret) .skip)) (.seq (.reg [⟨(some 4), none, (.mov (.c (.bool true)))⟩]) .ret)))⟩
theorem p34 : prepF Try.prog 34 = some c34 := by kernel_rfl
def c16 : F := ⟨27, [(.tmp 4)], (.seq (.reg [⟨(some 4), none, (.mov (.c (.int 0)))⟩]) (.seq (.reg [⟨(some 6), none, (.mov (.s 1))⟩, ⟨(some 7), none, (.mov (.s 0))⟩, ⟨(some 8), none, (.lenl (.s 7))⟩, ⟨(some 9), none, (.bin .sub (.s 6) (.s 8))⟩, ⟨(some 1), none, (.mov (.s 9))⟩]) (.seq (.seq (.reg [⟨(some 10), none, (.mov (.s 1))⟩, ⟨(some 11), none, (.bin .lss (.s 10) (.c (.int 0)))⟩]) (.cond (.s 11) (.seq (.reg [⟨(some 4), none, (.mov (.c (.int (-1))))⟩]) .ret) .skip)) (.seq (.seq (.reg [⟨(some 5), none, (.mov (.c (.int 0)))⟩]) (.block 0 (.loop (.seq (.seq (.reg [⟨(some 12), none, (.mov (.s 5))⟩, ⟨(some 13), none, (.mov (.s 0))⟩, ⟨(some 14), none, (.lenl (.s 13))⟩, ⟨(some 15), none, (.bin .lss (.s 12) (.s 14))⟩]) (.cond (.s 15) .skip (.exit 0))) (.seq (.block 1 (.seq (.reg [⟨(some 18), none, (.mov (.s 0))⟩, ⟨(some 19), none, (.mov (.s 5))⟩, ⟨(some 20), none, (.iadr none 1 (.s 18) (.s 19))⟩, ⟨(some 21), none, (.load false 1 (.s 20))⟩, ⟨(some 22), none, (.mov (.s 1))⟩, ⟨(some 23), none, (.call 57 [(.s 21), (.s 22)])⟩, ⟨(some 1), none, (.mov (.s 23))⟩]) (.seq (.reg [⟨(some 24), none, (.mov (.s 1))⟩, ⟨(some 25), none, (.bin .lss (.s 24) (.c (.int 0)))⟩]) (.cond (.s 25) (.seq (.reg [⟨(some 4), none, (.mov (.c (.int (-1))))⟩]) .ret) .skip)))) (.reg [⟨(some 16), none, (.mov (.s 5))⟩, ⟨(some 17), none, (.bin .add (.s 16) (.c (.int 1)))⟩, ⟨(some 5), none, (.mov (.s 17))⟩])))))) (.seq (.reg [⟨(some 26), none, (.mov (.s 1))⟩, ⟨(some 4), none, (.mov (.s 26))⟩]) .ret)))))⟩
theorem p16 : prepF Try.prog 16 = some c16 := by kernel_rfl
def c18 : F := ⟨23, [(.tmp 2)], (.seq (.reg [⟨(some 2), none, (.mov (.c .zs))⟩]) (.seq (.reg [⟨(some 5), none, (.mov (.s 0))⟩, ⟨(some 6), none, (.lenl (.s 5))⟩, ⟨(some 7), none, (.mks [(.e (.sl []))] (.s 6))⟩, ⟨(some 3), none, (.mov (.s 7))⟩]) (.seq (.seq (.reg [⟨(some 4), none, (.mov (.c (.int 0)))⟩]) (.block 0 (.loop (.seq (.seq (.reg [⟨(some 8), none, (.mov (.s 4))⟩, ⟨(some 9), none, (.mov (.s 0))⟩, ⟨(some 10), none, (.lenl (.s 9))⟩, ⟨(some 11), none, (.bin .lss (.s 8) (.s 10))⟩]) (.cond (.s 11) .skip (.exit 0))) (.seq (.block 1 (.reg [⟨(some 14), none, (.mov (.s 3))⟩, ⟨(some 15), none, (.mov (.s 4))⟩, ⟨(some 16), none, (.mov (.s 0))⟩, ⟨(some 17), none, (.mov (.s 4))⟩, ⟨(some 18), none, (.iadr none 1 (.s 16) (.s 17))⟩, ⟨(some 19), none, (.load false 1 (.s 18))⟩, ⟨(some 20), none, (.call 58 [(.s 19)])⟩, ⟨(some 21), none, (.iadr none 1 (.s 14) (.s 15))⟩, ⟨none, none, (.store false 1 (.s 21) (.s 20))⟩])) (.reg [⟨(some 12), none, (.mov (.s 4))⟩, ⟨(some 13), none, (.bin .add (.s 12) (.c (.int 1)))⟩, ⟨(some 4), none, (.mov (.s 13))⟩])))))) (.seq (.reg [⟨(some 22), none, (.mov (.s 3))⟩, ⟨(some 2), none, (.mov (.s 22))⟩]) .ret))))⟩
theorem p18 : prepF Try.prog 18 = some c18 := by kernel_rfl
def c19 : F := ⟨27, [(.tmp 4)], (.seq (.reg [⟨(some 4), none, (.mov (.c (.bool false)))⟩]) (.seq (.seq (.reg [⟨(some 6), none, (.mov (.s 0))⟩, ⟨(some 7), none, (.lenl (.s 6))⟩, ⟨(some 8), none, (.mov (.s 1))⟩, ⟨(some 9), none, (.lenl (.s 8))⟩, ⟨(some 10), none, (.bin .neq (.s 7) (.s 9))⟩]) (.cond (.s 10) (.seq (.reg [⟨(some 4), none, (.mov (.c (.bool false)))⟩]) .ret) .skip)) (.seq (.seq (.reg [⟨(some 5), none, (.mov (.c (.int 0)))⟩]) (.block 0 (.loop (.seq (.seq (.reg [⟨(some 11), none, (.mov (.s 5))⟩, ⟨(some 12), none, (.mov (.s 0))⟩, ⟨(some 13), none, (.lenl (.s 12))⟩, ⟨(some 14), none, (.bin .lss (.s 11) (.s 13))⟩]) (.cond (.s 14) .skip (.exit 0))) (.seq (.block 1 (.seq (.dreg [⟨⟨(some 17), none, (.mov (.s 0))⟩, [], [0]⟩, ⟨⟨(some 18), none, (.mov (.s 5))⟩, [0], [5]⟩, ⟨⟨(some 19), none, (.iadr none 1 (.s 17) (.s 18))⟩, [], [17, 18]⟩, ⟨⟨(some 20), none, (.load false 1 (.s 19))⟩, [], [19]⟩, ⟨⟨(some 21), none, (.mov (.s 1))⟩, [0, 1, 2, 3], [1]⟩, ⟨⟨(some 22), none, (.mov (.s 5))⟩, [0, 1, 2, 3, 4], [5]⟩, ⟨⟨(some 23), none, (.iadr none 1 (.s 21) (.s 22))⟩, [0, 1, 2, 3], [21, 22]⟩, ⟨⟨(some 24), none, (.load false 1 (.s 23))⟩, [0, 1, 2, 3], [23]⟩, ⟨⟨(some 25), none, (.call 59 [(.s 20), (.s 24)])⟩, [], [20, 24]⟩, ⟨⟨(some 26), none, (.un .not (.s 25))⟩, [], [25]⟩]) (.cond (.s 26) (.seq (.reg [⟨(some 4), none, (.mov (.c (.bool false)))⟩]) .ret) .skip))) (.reg [⟨(some 15), none, (.mov (.s 5))⟩, ⟨(some 16), none, (.bin .add (.s 15) (.c (.int 1)))⟩, ⟨(some 5), none, (.mov (.s 16))⟩])))))) (.seq (.reg [⟨(some 4), none, (.mov (.c (.bool true)))⟩]) .ret))))⟩
theorem p19 : prepF Try.prog 19 = some c19 := by kernel_rfl
def c72 : F := ⟨27, [(.tmp 4)], (.seq (.reg [⟨(some 4), none, (.mov (.c (.int 0)))⟩]) (.seq (.reg [⟨(some 6), none, (.mov (.s 1))⟩, ⟨(some 7), none, (.mov (.s 0))⟩, ⟨(some 8), none, (.lenl (.s 7))⟩, ⟨(some 9), none, (.bin .sub (.s 6) (.s 8))⟩, ⟨(some 1), none, (.mov (.s 9))⟩]) (.seq (.seq (.reg [⟨(some 10), none, (.mov (.s 1))⟩, ⟨(some 11), none, (.bin .lss (.s 10) (.c (.int 0)))⟩]) (.cond (.s 11) (.seq (.reg [⟨(some 4), none, (.mov (.c (.int (-1))))⟩]) .ret) .skip)) (.seq (.seq (.reg [⟨(some 5), none, (.mov (.c (.int 0)))⟩]) (.block 0 (.loop (.seq (.seq (.reg [⟨(some 12), none, (.mov (.s 5))⟩, ⟨(some 13), none, (.mov (.s 0))⟩, ⟨(some 14), none, (.lenl (.s 13))⟩, ⟨(some 15), none, (.bin .lss (.s 12) (.s 14))⟩]) (.cond (.s 15) .skip (.exit 0))) (.seq (.block 1 (.seq (.reg [⟨(some 18), none, (.mov (.s 0))⟩, ⟨(some 19), none, (.mov (.s 5))⟩, ⟨(some 20), none, (.iadr none 3 (.s 18) (.s 19))⟩, ⟨(some 21), none, (.load true 3 (.s 20))⟩, ⟨(some 22), none, (.mov (.s 1))⟩, ⟨(some 23), none, (.call 127 [(.s 21), (.s 22)])⟩, ⟨(some 1), none, (.mov (.s 23))⟩]) (.seq (.reg [⟨(some 24), none, (.mov (.s 1))⟩, ⟨(some 25), none, (.bin .lss (.s 24) (.c (.int 0)))⟩]) (.cond (.s 25) (.seq (.reg [⟨(some 4), none, (.mov (.c (.int (-1))))⟩]) .ret) .skip)))) (.reg [⟨(some 16), none, (.mov (.s 5))⟩, ⟨(some 17), none, (.bin .add (.s 16) (.c (.int 1)))⟩, ⟨(some 5), none, (.mov (.s 17))⟩])))))) (.seq (.reg [⟨(some 26), none, (.mov (.s 1))⟩, ⟨(some 4), none, (.mov (.s 26))⟩]) .ret)))))⟩
theorem p72 : prepF Try.prog 72 = some c72 := by kernel_rfl
def c76 : F := ⟨23, [(.tmp 2)], (.seq (.reg [⟨(some 2), none, (.mov (.c .zs))⟩]) (.seq (.reg [⟨(some 5), none, (.mov (.s 0))⟩, ⟨(some 6), none, (.lenl (.s 5))⟩, ⟨(some 7), none, (.mks [(.str []), (.int 0), (.e (.sl []))] (.s 6))⟩, ⟨(some 3), none, (.mov (.s 7))⟩]) (.seq (.seq (.reg [⟨(some 4), none, (.mov (.c (.int 0)))⟩]) (.block 0 (.loop (.seq (.seq (.reg [⟨(some 8), none, (.mov (.s 4))⟩, ⟨(some 9), none, (.mov (.s 0))⟩, ⟨(some 10), none, (.lenl (.s 9))⟩, ⟨(some 11), none, (.bin .lss (.s 8) (.s 10))⟩]) (.cond (.s 11) .skip (.exit 0))) (.seq (.block 1 (.reg [⟨(some 14), none, (.mov (.s 3))⟩, ⟨(some 15), none, (.mov (.s 4))⟩, ⟨(some 16), none, (.mov (.s 0))⟩, ⟨(some 17), none, (.mov (.s 4))⟩, ⟨(some 18), none, (.iadr none 3 (.s 16) (.s 17))⟩, ⟨(some 19), none, (.load true 3 (.s 18))⟩, ⟨(some 20), none, (.call 134 [(.s 19)])⟩, ⟨(some 21), none, (.iadr none 3 (.s 14) (.s 15))⟩, ⟨none, none, (.store true 3 (.s 21) (.s 20))⟩])) (.reg [⟨(some 12), none, (.mov (.s 4))⟩, ⟨(some 13), none, (.bin .add (.s 12) (.c (.int 1)))⟩, ⟨(some 4), none, (.mov (.s 13))⟩])))))) (.seq (.reg [⟨(some 22), none, (.mov (.s 3))⟩, ⟨(some 2), none, (.mov (.s 22))⟩]) .ret))))⟩
theorem p76 : prepF Try.prog 76 = some c76 := by kernel_rfl
def c79 : F := ⟨27, [(.tmp 4)], (.seq (.reg [⟨(some 4), none, (.mov (.c (.bool false)))⟩]) (.seq (.seq (.reg [⟨(some 6), none, (.mov (.s 0))⟩, ⟨(some 7), none, (.lenl (.s 6))⟩, ⟨(some 8), none, (.mov (.s 1))⟩, ⟨(some 9), none, (.lenl (.s 8))⟩, ⟨(some 10), none, (.bin .neq (.s 7) (.s 9))⟩]) (.cond (.s 10) (.seq (.reg [⟨(some 4), none, (.mov (.c (.bool false)))⟩]) .ret) .skip)) (.seq (.seq (.reg [⟨(some 5), none, (.mov (.c (.int 0)))⟩]) (.block 0 (.loop (.seq (.seq (.reg [⟨(some 11), none, (.mov (.s 5))⟩, ⟨(some 12), none, (.mov (.s 0))⟩, ⟨(some 13), none, (.lenl (.s 12))⟩, ⟨(some 14), none, (.bin .lss (.s 11) (.s 13))⟩]) (.cond (.s 14) .skip (.exit 0))) (.seq (.block 1 (.seq (.dreg [⟨⟨(some 17), none, (.mov (.s 0))⟩, [], [0]⟩, ⟨⟨(some 18), none, (.mov (.s 5))⟩, [0], [5]⟩, ⟨⟨(some 19), none, (.iadr none 3 (.s 17) (.s 18))⟩, [], [17, 18]⟩, ⟨⟨(some 20), none, (.load true 3 (.s 19))⟩, [], [19]⟩, ⟨⟨(some 21), none, (.mov (.s 1))⟩, [0, 1, 2, 3], [1]⟩, ⟨⟨(some 22), none, (.mov (.s 5))⟩, [0, 1, 2, 3, 4], [5]⟩, ⟨⟨(some 23), none, (.iadr none 3 (.s 21) (.s 22))⟩, [0, 1, 2, 3], [21, 22]⟩, ⟨⟨(some 24), none, (.load true 3 (.s 23))⟩, [0, 1, 2, 3], [23]⟩, ⟨⟨(some 25), none, (.call 139 [(.s 20), (.s 24)])⟩, [], [20, 24]⟩, ⟨⟨(some 26), none, (.un .not (.s 25))⟩, [], [25]⟩]) (.cond (.s 26) (.seq (.reg [⟨(some 4), none, (.mov (.c (.bool false)))⟩]) .ret) .skip))) (.reg [⟨(some 15), none, (.mov (.s 5))⟩, ⟨(some 16), none, (.bin .add (.s 15) (.c (.int 1)))⟩, ⟨(some 5), none, (.mov (.s 16))⟩])))))) (.seq (.reg [⟨(some 4), none, (.mov (.c (.bool true)))⟩]) .ret))))⟩
theorem p79 : prepF Try.prog 79 = some c79 := by kernel_rfl
def c127 : F := ⟨19, [(.tmp 4)], (.seq (.reg [⟨(some 2), none, (.box (.s 0))⟩, ⟨(some 4), none, (.mov (.c (.int 0)))⟩]) (.seq (.reg [⟨(some 5), none, (.mov (.s 1))⟩, ⟨(some 6), none, (.fadr 0 (.s 2))⟩, ⟨(some 7), none, (.load false 1 (.s 6))⟩, ⟨(some 8), none, (.lens (.s 7))⟩, ⟨(some 9), none, (.bin .sub (.s 5) (.s 8))⟩, ⟨(some 1), none, (.mov (.s 9))⟩]) (.seq (.seq (.reg [⟨(some 10), none, (.mov (.s 1))⟩, ⟨(some 11), none, (.bin .lss (.s 10) (.c (.int 0)))⟩]) (.cond (.s 11) (.seq (.reg [⟨(some 4), none, (.mov (.c (.int (-1))))⟩]) .ret) .skip)) (.seq (.reg [⟨(some 12), none, (.fadr 2 (.s 2))⟩, ⟨(some 13), none, (.load false 1 (.s 12))⟩, ⟨(some 14), none, (.mov (.s 1))⟩, ⟨(some 15), none, (.call 16 [(.s 13), (.s 14)])⟩, ⟨(some 1), none, (.mov (.s 15))⟩]) (.seq (.seq (.reg [⟨(some 16), none, (.mov (.s 1))⟩, ⟨(some 17), none, (.bin .lss (.s 16) (.c (.int 0)))⟩]) (.cond (.s 17) (.seq (.reg [⟨(some 4), none, (.mov (.c (.int (-1))))⟩]) .ret) .skip)) (.seq (.reg [⟨(some 18), none, (.mov (.s 1))⟩, ⟨(some 4), none, (.mov (.s 18))⟩]) .ret))))))⟩
theorem p127 : prepF Try.prog 127 = some c127 := by kernel_rfl
def c134 : F := ⟨15, [(.cell 2 true 3)], (.seq (.reg [⟨(some 1), none, (.box (.s 0))⟩, ⟨(some 2), none, (.alloc [(.str []), (.int 0), (.e (.sl []))])⟩]) (.seq (.reg [⟨(some 3), none, (.alloc [(.str []), (.int 0), (.e (.sl []))])⟩]) (.seq (.reg [⟨(some 4), none, (.fadr 0 (.s 1))⟩, ⟨(some 5), none, (.load false 1 (.s 4))⟩, ⟨(some 6), none, (.fadr 0 (.s 3))⟩, ⟨none, none, (.store false 1 (.s 6) (.s 5))⟩]) (.seq (.reg [⟨(some 7), none, (.fadr 1 (.s 1))⟩, ⟨(some 8), none, (.load false 1 (.s 7))⟩, ⟨(some 9), none, (.fadr 1 (.s 3))⟩, ⟨none, none, (.store false 1 (.s 9) (.s 8))⟩]) (.seq (.reg [⟨(some 10), none, (.fadr 2 (.s 1))⟩, ⟨(some 11), none, (.load false 1 (.s 10))⟩, ⟨(some 12), none, (.call 18 [(.s 11)])⟩, ⟨(some 13), none, (.fadr 2 (.s 3))⟩, ⟨none, none, (.store false 1 (.s 13) (.s 12))⟩]) (.seq (.reg [⟨(some 14), none, (.load true 3 (.s 3))⟩, ⟨none, none, (.store true 3 (.s 2) (.s 14))⟩]) .ret))))))⟩
theorem p134 : prepF Try.prog 134 = some c134 := by kernel_rfl
def c139 : F := ⟨21, [(.tmp 4)], (.seq (.reg [⟨(some 2), none, (.box (.s 0))⟩, ⟨(some 3), none, (.box (.s 1))⟩, ⟨(some 4), none, (.mov (.c (.bool false)))⟩]) (.seq (.seq (.reg [⟨(some 5), none, (.fadr 0 (.s 2))⟩, ⟨(some 6), none, (.load false 1 (.s 5))⟩, ⟨(some 7), none, (.fadr 0 (.s 3))⟩, ⟨(some 8), none, (.load false 1 (.s 7))⟩, ⟨(some 9), none, (.bin .neq (.s 6) (.s 8))⟩]) (.cond (.s 9) (.seq (.reg [⟨(some 4), none, (.mov (.c (.bool false)))⟩]) .ret) .skip)) (.seq (.seq (.reg [⟨(some 10), none, (.fadr 1 (.s 2))⟩, ⟨(some 11), none, (.load false 1 (.s 10))⟩, ⟨(some 12), none, (.fadr 1 (.s 3))⟩, ⟨(some 13), none, (.load false 1 (.s 12))⟩, ⟨(some 14), none, (.bin .neq (.s 11) (.s 13))⟩]) (.cond (.s 14) (.seq (.reg [⟨(some 4), none, (.mov (.c (.bool false)))⟩]) .ret) .skip)) (.seq (.seq (.reg [⟨(some 15), none, (.fadr 2 (.s 2))⟩, ⟨(some 16), none, (.load false 1 (.s 15))⟩, ⟨(some 17), none, (.fadr 2 (.s 3))⟩, ⟨(some 18), none, (.load false 1 (.s 17))⟩, ⟨(some 19), none, (.call 19 [(.s 16), (.s 18)])⟩, ⟨(some 20), none, (.un .not (.s 19))⟩]) (.cond (.s 20) (.seq (.reg [⟨(some 4), none, (.mov (.c (.bool false)))⟩]) .ret) .skip)) (.seq (.reg [⟨(some 4), none, (.mov (.c (.bool true)))⟩]) .ret)))))⟩
theorem p139 : prepF Try.prog 139 = some c139 := by kernel_rfl
def c73 : F := ⟨68, [(.tmp 2)], (.seq (.reg [⟨(some 1), none, (.box (.s 0))⟩, ⟨(some 2), none, (.mov (.c (.bool false)))⟩]) (.seq (.seq (.reg [⟨(some 7), none, (.fadr 0 (.s 1))⟩, ⟨(some 8), none, (.load false 1 (.s 7))⟩, ⟨(some 9), none, (.lenl (.s 8))⟩, ⟨(some 10), none, (.bin .gtr (.s 9) (.c (.int 50)))⟩]) (.cond (.s 10) (.seq (.reg [⟨(some 2), none, (.mov (.c (.bool false)))⟩]) .ret) .skip)) (.seq (.reg [⟨(some 3), none, (.mov (.c (.int 0)))⟩]) (.seq (.seq (.reg [⟨(some 4), none, (.mov (.c (.int 0)))⟩]) (.block 0 (.loop (.seq (.seq (.reg [⟨(some 11), none, (.mov (.s 4))⟩, ⟨(some 12), none, (.fadr 0 (.s 1))⟩, ⟨(some 13), none, (.load false 1 (.s 12))⟩, ⟨(some 14), none, (.lenl (.s 13))⟩, ⟨(some 15), none, (.bin .lss (.s 11) (.s 14))⟩]) (.cond (.s 15) .skip (.exit 0))) (.seq (.block 1 (.seq (.reg [⟨(some 18), none, (.fadr 0 (.s 1))⟩, ⟨(some 19), none, (.load false 1 (.s 18))⟩, ⟨(some 20), none, (.mov (.s 4))⟩, ⟨(some 21), none, (.iadr none 3 (.s 19) (.s 20))⟩, ⟨(some 22), none, (.load true 3 (.s 21))⟩, ⟨(some 5), none, (.alloc [(.str []), (.int 0), (.e (.sl []))])⟩, ⟨none, none, (.store true 3 (.s 5) (.s 22))⟩]) (.seq (.seq (.reg [⟨(some 23), none, (.fadr 0 (.s 5))⟩, ⟨(some 24), none, (.load false 1 (.s 23))⟩, ⟨(some 25), none, (.call 115 [(.s 24)])⟩, ⟨(some 26), none, (.un .not (.s 25))⟩, ⟨(some 27), none, (.mov (.s 26))⟩, ⟨(some 28), (some (27, false)), (.fadr 1 (.s 5))⟩, ⟨(some 29), (some (27, false)), (.load false 1 (.s 28))⟩, ⟨(some 30), (some (27, false)), (.bin .lss (.s 29) (.c (.int 1)))⟩, ⟨(some 31), none, (.pick (.s 27) (.c (.bool true)) (.s 30))⟩, ⟨(some 32), none, (.mov (.s 31))⟩, ⟨(some 33), (some (32, false)), (.fadr 1 (.s 5))⟩, ⟨(some 34), (some (32, false)), (.load false 1 (.s 33))⟩, ⟨(some 35), (some (32, false)), (.bin .gtr (.s 34) (.c (.int 16)))⟩, ⟨(some 36), none, (.pick (.s 32) (.c (.bool true)) (.s 35))⟩, ⟨(some 37), none, (.mov (.s 36))⟩, ⟨(some 38), (some (37, false)), (.load true 1 (.s 1))⟩, ⟨(some 39), (some (37, false)), (.fadr 0 (.s 5))⟩, ⟨(some 40), (some (37, false)), (.load false 1 (.s 39))⟩, ⟨(some 41), (some (37, false)), (.call 128 [(.s 38), (.s 40)])⟩, ⟨(some 42), (some (37, false)), (.mov (.s 4))⟩, ⟨(some 43), (some (37, false)), (.bin .neq (.s 41) (.s 42))⟩, ⟨(some 44), none, (.pick (.s 37) (.c (.bool true)) (.s 43))⟩]) (.cond (.s 44) (.seq (.reg [⟨(some 2), none, (.mov (.c (.bool false)))⟩]) .ret) .skip)) (.seq (.seq (.reg [⟨(some 6), none, (.mov (.c (.int 0)))⟩]) (.block 2 (.loop (.seq (.seq (.reg [⟨(some 45), none, (.mov (.s 6))⟩, ⟨(some 46), none, (.fadr 2 (.s 5))⟩, ⟨(some 47), none, (.load false 1 (.s 46))⟩, ⟨(some 48), none, (.lenl (.s 47))⟩, ⟨(some 49), none, (.bin .lss (.s 45) (.s 48))⟩]) (.cond (.s 49) .skip (.exit 2))) (.seq (.block 3 (.seq (.dreg [⟨⟨(some 52), none, (.fadr 2 (.s 5))⟩, [], [5]⟩, ⟨⟨(some 53), none, (.load false 1 (.s 52))⟩, [], [52]⟩, ⟨⟨(some 54), none, (.mov (.s 6))⟩, [0, 1], [6]⟩, ⟨⟨(some 55), none, (.iadr none 1 (.s 53) (.s 54))⟩, [], [53, 54]⟩, ⟨⟨(some 56), none, (.load false 1 (.s 55))⟩, [], [55]⟩, ⟨⟨(some 57), none, (.lenl (.s 56))⟩, [], [56]⟩, ⟨⟨(some 58), none, (.fadr 1 (.s 5))⟩, [0, 1, 2, 3, 4, 5], [5]⟩, ⟨⟨(some 59), none, (.load false 1 (.s 58))⟩, [0, 1, 2, 3, 4, 5], [58]⟩, ⟨⟨(some 60), none, (.bin .neq (.s 57) (.s 59))⟩, [], [57, 59]⟩]) (.cond (.s 60) (.seq (.reg [⟨(some 2), none, (.mov (.c (.bool false)))⟩]) .ret) .skip))) (.reg [⟨(some 50), none, (.mov (.s 6))⟩, ⟨(some 51), none, (.bin .add (.s 50) (.c (.int 1)))⟩, ⟨(some 6), none, (.mov (.s 51))⟩])))))) (.reg [⟨(some 61), none, (.mov (.s 3))⟩, ⟨(some 62), none, (.fadr 2 (.s 5))⟩, ⟨(some 63), none, (.load false 1 (.s 62))⟩, ⟨(some 64), none, (.lenl (.s 63))⟩, ⟨(some 65), none, (.bin .add (.s 61) (.s 64))⟩, ⟨(some 3), none, (.mov (.s 65))⟩]))))) (.reg [⟨(some 16), none, (.mov (.s 4))⟩, ⟨(some 17), none, (.bin .add (.s 16) (.c (.int 1)))⟩, ⟨(some 4), none, (.mov (.s 17))⟩])))))) (.seq (.reg [⟨(some 66), none, (.mov (.s 3))⟩, ⟨(some 67), none, (.bin .leq (.s 66) (.c (.int 1000)))⟩, ⟨(some 2), none, (.mov (.s 67))⟩]) .ret)))))⟩
theorem p73 : prepF Try.prog 73 = some c73 := by kernel_rfl
def c135 : F := ⟨73, [(.tmp 2)], (.seq (.reg [⟨(some 1), none, (.box (.s 0))⟩, ⟨(some 2), none, (.mov (.c (.bool false)))⟩]) (.seq (.seq (.reg [⟨(some 11), none, (.fadr 0 (.s 1))⟩, ⟨(some 12), none, (.load false 1 (.s 11))⟩, ⟨(some 13), none, (.lenl (.s 12))⟩, ⟨(some 14), none, (.bin .gtr (.s 13) (.c (.int 50)))⟩]) (.cond (.s 14) (.seq (.reg [⟨(some 2), none, (.mov (.c (.bool false)))⟩]) .ret) .skip)) (.seq (.reg [⟨(some 15), none, .mkm⟩, ⟨(some 3), none, (.mov (.s 15))⟩]) (.seq (.reg [⟨(some 4), none, (.mov (.c (.int 0)))⟩]) (.seq (.seq (.reg [⟨(some 16), none, (.fadr 0 (.s 1))⟩, ⟨(some 17), none, (.load false 1 (.s 16))⟩, ⟨(some 18), none, (.lenl (.s 17))⟩, ⟨(some 19), none, (.mov (.c (.int 0)))⟩]) (.block 0 (.loop (.seq (.reg [⟨(some 20), none, (.bin .lss (.s 19) (.s 18))⟩]) (.seq (.cond (.s 20) .skip (.exit 0)) (.seq (.block 1 (.seq (.reg [⟨(some 21), none, (.mov (.s 19))⟩, ⟨(some 22), none, (.iadr none 3 (.s 17) (.s 19))⟩, ⟨(some 23), none, (.load true 3 (.s 22))⟩, ⟨(some 6), none, (.alloc [(.str []), (.int 0), (.e (.sl []))])⟩, ⟨(some 5), none, (.mov (.s 21))⟩, ⟨none, none, (.store true 3 (.s 6) (.s 23))⟩]) (.seq (.seq (.reg [⟨(some 25), none, (.mov (.s 3))⟩, ⟨(some 26), none, (.fadr 0 (.s 6))⟩, ⟨(some 27), none, (.load false 1 (.s 26))⟩, ⟨(some 28), none, (.mget true (.v (.int .i64 0)) (.s 25) (.s 27))⟩, ⟨(some 24), none, (.mov (.s 28))⟩, ⟨(some 29), none, (.ext 0 (.s 24))⟩, ⟨(some 30), none, (.ext 1 (.s 24))⟩, ⟨(some 7), none, (.mov (.s 29))⟩, ⟨(some 8), none, (.mov (.s 30))⟩]) (.seq (.reg [⟨(some 31), none, (.mov (.s 8))⟩, ⟨(some 32), none, (.mov (.s 31))⟩, ⟨(some 33), (some (32, false)), (.fadr 0 (.s 6))⟩, ⟨(some 34), (some (32, false)), (.load false 1 (.s 33))⟩, ⟨(some 35), (some (32, false)), (.call 119 [(.s 34)])⟩, ⟨(some 36), (some (32, false)), (.un .not (.s 35))⟩, ⟨(some 37), none, (.pick (.s 32) (.c (.bool true)) (.s 36))⟩, ⟨(some 38), none, (.mov (.s 37))⟩, ⟨(some 39), (some (38, false)), (.fadr 1 (.s 6))⟩, ⟨(some 40), (some (38, false)), (.load false 1 (.s 39))⟩, ⟨(some 41), (some (38, false)), (.bin .lss (.s 40) (.c (.int 1)))⟩, ⟨(some 42), none, (.pick (.s 38) (.c (.bool true)) (.s 41))⟩, ⟨(some 43), none, (.mov (.s 42))⟩, ⟨(some 44), (some (43, false)), (.fadr 1 (.s 6))⟩, ⟨(some 45), (some (43, false)), (.load false 1 (.s 44))⟩, ⟨(some 46), (some (43, false)), (.bin .gtr (.s 45) (.c (.int 16)))⟩, ⟨(some 47), none, (.pick (.s 43) (.c (.bool true)) (.s 46))⟩]) (.cond (.s 47) (.seq (.reg [⟨(some 2), none, (.mov (.c (.bool false)))⟩]) .ret) .skip))) (.seq (.reg [⟨(some 48), none, (.mov (.s 3))⟩, ⟨(some 49), none, (.fadr 0 (.s 6))⟩, ⟨(some 50), none, (.load false 1 (.s 49))⟩, ⟨(some 51), none, (.mov (.s 5))⟩, ⟨none, none, (.mput (.s 48) (.s 50) (.s 51))⟩]) (.seq (.reg [⟨(some 52), none, (.mov (.s 4))⟩, ⟨(some 53), none, (.fadr 2 (.s 6))⟩, ⟨(some 54), none, (.load false 1 (.s 53))⟩, ⟨(some 55), none, (.lenl (.s 54))⟩, ⟨(some 56), none, (.bin .add (.s 52) (.s 55))⟩, ⟨(some 4), none, (.mov (.s 56))⟩]) (.seq (.reg [⟨(some 57), none, (.fadr 2 (.s 6))⟩, ⟨(some 58), none, (.load false 1 (.s 57))⟩, ⟨(some 59), none, (.lenl (.s 58))⟩, ⟨(some 60), none, (.mov (.c (.int 0)))⟩]) (.block 2 (.loop (.seq (.reg [⟨(some 61), none, (.bin .lss (.s 60) (.s 59))⟩]) (.seq (.cond (.s 61) .skip (.exit 2)) (.seq (.block 3 (.seq (.reg [⟨(some 62), none, (.iadr none 1 (.s 58) (.s 60))⟩, ⟨(some 63), none, (.load false 1 (.s 62))⟩, ⟨(some 10), none, (.mov (.s 63))⟩]) (.seq (.reg [⟨(some 64), none, (.mov (.s 10))⟩, ⟨(some 65), none, (.lenl (.s 64))⟩, ⟨(some 66), none, (.fadr 1 (.s 6))⟩, ⟨(some 67), none, (.load false 1 (.s 66))⟩, ⟨(some 68), none, (.bin .neq (.s 65) (.s 67))⟩]) (.cond (.s 68) (.seq (.reg [⟨(some 2), none, (.mov (.c (.bool false)))⟩]) .ret) .skip)))) (.reg [⟨(some 69), none, (.bin .add (.s 60) (.c (.int 1)))⟩, ⟨(some 60), none, (.mov (.s 69))⟩])))))))))))) (.reg [⟨(some 70), none, (.bin .add (.s 19) (.c (.int 1)))⟩, ⟨(some 19), none, (.mov (.s 70))⟩]))))))) (.seq (.reg [⟨(some 71), none, (.mov (.s 4))⟩, ⟨(some 72), none, (.bin .leq (.s 71) (.c (.int 1000)))⟩, ⟨(some 2), none, (.mov (.s 72))⟩]) .ret))))))⟩
theorem p135 : prepF Try.prog 135 = some c135 := by kernel_rfl
def c115 : F := ⟨15, [(.tmp 2)], (.seq (.reg [⟨(some 2), none, (.mov (.c (.bool false)))⟩]) (.seq (.reg [⟨(some 3), none, (.mov (.s 0))⟩, ⟨(some 4), none, (.call 163 [(.s 3)])⟩, ⟨(some 5), none, (.mov (.s 4))⟩, ⟨(some 6), (some (5, true)), (.mov (.s 0))⟩, ⟨(some 7), (some (5, true)), (.lens (.s 6))⟩, ⟨(some 8), (some (5, true)), (.bin .leq (.s 7) (.c (.int 64)))⟩, ⟨(some 9), none, (.pick (.s 5) (.s 8) (.c (.bool false)))⟩, ⟨(some 10), none, (.mov (.s 9))⟩, ⟨(some 11), (some (10, true)), (.mov (.s 0))⟩, ⟨(some 12), (some (10, true)), (.call 164 [(.s 11)])⟩, ⟨(some 13), (some (10, true)), (.un .not (.s 12))⟩, ⟨(some 14), none, (.pick (.s 10) (.s 13) (.c (.bool false)))⟩, ⟨(some 2), none, (.mov (.s 14))⟩]) .ret))⟩
theorem p115 : prepF Try.prog 115 = some c115 := by kernel_rfl
def c128 : F := ⟨22, [(.tmp 4)], (.seq (.reg [⟨(some 2), none, (.box (.s 0))⟩, ⟨(some 4), none, (.mov (.c (.int 0)))⟩]) (.seq (.seq (.reg [⟨(some 5), none, (.mov (.c (.int 0)))⟩]) (.block 0 (.loop (.seq (.seq (.reg [⟨(some 6), none, (.mov (.s 5))⟩, ⟨(some 7), none, (.fadr 0 (.s 2))⟩, ⟨(some 8), none, (.load false 1 (.s 7))⟩, ⟨(some 9), none, (.lenl (.s 8))⟩, ⟨(some 10), none, (.bin .lss (.s 6) (.s 9))⟩]) (.cond (.s 10) .skip (.exit 0))) (.seq (.block 1 (.seq (.reg [⟨(some 13), none, (.fadr 0 (.s 2))⟩, ⟨(some 14), none, (.load false 1 (.s 13))⟩, ⟨(some 15), none, (.mov (.s 5))⟩, ⟨(some 16), none, (.iadr none 3 (.s 14) (.s 15))⟩, ⟨(some 17), none, (.fadr 0 (.s 16))⟩, ⟨(some 18), none, (.load false 1 (.s 17))⟩, ⟨(some 19), none, (.mov (.s 1))⟩, ⟨(some 20), none, (.bin .eql (.s 18) (.s 19))⟩]) (.cond (.s 20) (.seq (.reg [⟨(some 21), none, (.mov (.s 5))⟩, ⟨(some 4), none, (.mov (.s 21))⟩]) .ret) .skip))) (.reg [⟨(some 11), none, (.mov (.s 5))⟩, ⟨(some 12), none, (.bin .add (.s 11) (.c (.int 1)))⟩, ⟨(some 5), none, (.mov (.s 12))⟩])))))) (.seq (.reg [⟨(some 4), none, (.mov (.c (.int (-1))))⟩]) .ret)))⟩
theorem p128 : prepF Try.prog 128 = some c128 := by kernel_rfl
def c119 : F := ⟨46, [(.tmp 2)], (.seq (.reg [⟨(some 2), none, (.mov (.c (.bool false)))⟩]) (.seq (.seq (.reg [⟨(some 4), none, (.mov (.s 0))⟩, ⟨(some 5), none, (.lens (.s 4))⟩, ⟨(some 6), none, (.bin .lss (.s 5) (.c (.int 1)))⟩, ⟨(some 7), none, (.mov (.s 6))⟩, ⟨(some 8), (some (7, false)), (.mov (.s 0))⟩, ⟨(some 9), (some (7, false)), (.lens (.s 8))⟩, ⟨(some 10), (some (7, false)), (.bin .gtr (.s 9) (.c (.int 64)))⟩, ⟨(some 11), none, (.pick (.s 7) (.c (.bool true)) (.s 10))⟩, ⟨(some 12), none, (.mov (.s 11))⟩, ⟨(some 13), (some (12, false)), (.mov (.s 0))⟩, ⟨(some 14), (some (12, false)), (.ixs (.s 13) (.c (.int 0)))⟩, ⟨(some 15), (some (12, false)), (.call 166 [(.s 14)])⟩, ⟨(some 16), (some (12, false)), (.un .not (.s 15))⟩, ⟨(some 17), none, (.pick (.s 12) (.c (.bool true)) (.s 16))⟩, ⟨(some 18), none, (.mov (.s 17))⟩, ⟨(some 19), (some (18, false)), (.mov (.s 0))⟩, ⟨(some 20), (some (18, false)), (.call 167 [(.s 19)])⟩, ⟨(some 21), none, (.pick (.s 18) (.c (.bool true)) (.s 20))⟩]) (.cond (.s 21) (.seq (.reg [⟨(some 2), none, (.mov (.c (.bool false)))⟩]) .ret) .skip)) (.seq (.seq (.reg [⟨(some 22), none, (.mov (.s 0))⟩, ⟨(some 23), none, (.lens (.s 22))⟩, ⟨(some 24), none, (.mov (.c (.int 0)))⟩]) (.block 0 (.loop (.seq (.reg [⟨(some 25), none, (.bin .lss (.s 24) (.s 23))⟩]) (.seq (.cond (.s 25) .skip (.exit 0)) (.seq (.block 1 (.seq (.reg [⟨(some 26), none, (.mov (.s 24))⟩, ⟨(some 3), none, (.mov (.s 26))⟩]) (.seq (.reg [⟨(some 27), none, (.mov (.s 0))⟩, ⟨(some 28), none, (.mov (.s 3))⟩, ⟨(some 29), none, (.ixs (.s 27) (.s 28))⟩, ⟨(some 30), none, (.call 166 [(.s 29)])⟩, ⟨(some 31), none, (.un .not (.s 30))⟩, ⟨(some 32), none, (.mov (.s 31))⟩, ⟨(some 33), (some (32, true)), (.mov (.s 0))⟩, ⟨(some 34), (some (32, true)), (.mov (.s 3))⟩, ⟨(some 35), (some (32, true)), (.ixs (.s 33) (.s 34))⟩, ⟨(some 36), (some (32, true)), (.call 168 [(.s 35)])⟩, ⟨(some 37), (some (32, true)), (.un .not (.s 36))⟩, ⟨(some 38), none, (.pick (.s 32) (.s 37) (.c (.bool false)))⟩, ⟨(some 39), none, (.mov (.s 38))⟩, ⟨(some 40), (some (39, true)), (.mov (.s 0))⟩, ⟨(some 41), (some (39, true)), (.mov (.s 3))⟩, ⟨(some 42), (some (39, true)), (.ixs (.s 40) (.s 41))⟩, ⟨(some 43), (some (39, true)), (.bin .neq (.s 42) (.c (.e (.v (.int .u8 95)))))⟩, ⟨(some 44), none, (.pick (.s 39) (.s 43) (.c (.bool false)))⟩]) (.cond (.s 44) (.seq (.reg [⟨(some 2), none, (.mov (.c (.bool false)))⟩]) .ret) .skip)))) (.reg [⟨(some 45), none, (.bin .add (.s 24) (.c (.int 1)))⟩, ⟨(some 24), none, (.mov (.s 45))⟩]))))))) (.seq (.reg [⟨(some 2), none, (.mov (.c (.bool true)))⟩]) .ret))))⟩
theorem p119 : prepF Try.prog 119 = some c119 := by kernel_rfl
def c163 : F := ⟨35, [(.tmp 2)], (.seq (.reg [⟨(some 2), none, (.mov (.c (.bool false)))⟩]) (.seq (.seq (.reg [⟨(some 3), none, (.mov (.c (.int 0)))⟩]) (.block 0 (.loop (.seq (.seq (.reg [⟨(some 4), none, (.mov (.s 3))⟩, ⟨(some 5), none, (.mov (.s 0))⟩, ⟨(some 6), none, (.lens (.s 5))⟩, ⟨(some 7), none, (.bin .lss (.s 4) (.s 6))⟩]) (.cond (.s 7) .skip (.exit 0))) (.seq (.block 1 (.seq (.reg [⟨(some 10), none, (.mov (.s 0))⟩, ⟨(some 11), none, (.mov (.s 3))⟩, ⟨(some 12), none, (.ixs (.s 10) (.s 11))⟩, ⟨(some 13), none, (.call 192 [(.s 12)])⟩, ⟨(some 14), none, (.un .not (.s 13))⟩, ⟨(some 15), none, (.mov (.s 14))⟩, ⟨(some 16), (some (15, true)), (.mov (.s 3))⟩, ⟨(some 17), (some (15, true)), (.bin .eql (.s 16) (.c (.int 0)))⟩, ⟨(some 18), (some (15, true)), (.mov (.s 17))⟩, ⟨(some 19), (some (18, false)), (.mov (.s 0))⟩, ⟨(some 20), (some (18, false)), (.mov (.s 3))⟩, ⟨(some 21), (some (18, false)), (.ixs (.s 19) (.s 20))⟩, ⟨(some 22), (some (18, false)), (.call 193 [(.s 21)])⟩, ⟨(some 23), (some (18, false)), (.un .not (.s 22))⟩, ⟨(some 24), (some (18, false)), (.mov (.s 23))⟩, ⟨(some 25), (some (24, true)), (.mov (.s 0))⟩, ⟨(some 26), (some (24, true)), (.mov (.s 3))⟩, ⟨(some 27), (some (24, true)), (.ixs (.s 25) (.s 26))⟩, ⟨(some 28), (some (24, true)), (.bin .neq (.s 27) (.c (.e (.v (.int .u8 95)))))⟩, ⟨(some 29), (some (18, false)), (.pick (.s 24) (.s 28) (.c (.bool false)))⟩, ⟨(some 30), (some (15, true)), (.pick (.s 18) (.c (.bool true)) (.s 29))⟩, ⟨(some 31), none, (.pick (.s 15) (.s 30) (.c (.bool false)))⟩]) (.cond (.s 31) (.seq (.reg [⟨(some 2), none, (.mov (.c (.bool false)))⟩]) .ret) .skip))) (.reg [⟨(some 8), none, (.mov (.s 3))⟩, ⟨(some 9), none, (.bin .add (.s 8) (.c (.int 1)))⟩, ⟨(some 3), none, (.mov (.s 9))⟩])))))) (.seq (.reg [⟨(some 32), none, (.mov (.s 0))⟩, ⟨(some 33), none, (.lens (.s 32))⟩, ⟨(some 34), none, (.bin .gtr (.s 33) (.c (.int 0)))⟩, ⟨(some 2), none, (.mov (.s 34))⟩]) .ret)))⟩
theorem p163 : prepF Try.prog 163 = some c163 := by kernel_rfl
def c164 : F := ⟨69, [(.tmp 2)], (.seq (.reg [⟨(some 2), none, (.mov (.c (.bool false)))⟩]) (.seq (.reg [⟨(some 3), none, (.mov (.s 0))⟩, ⟨(some 4), none, (.bin .eql (.s 3) (.c (.str [83, 69, 76, 69, 67, 84])))⟩, ⟨(some 5), none, (.mov (.s 4))⟩, ⟨(some 6), (some (5, false)), (.mov (.s 0))⟩, ⟨(some 7), (some (5, false)), (.bin .eql (.s 6) (.c (.str [68, 73, 83, 84, 73, 78, 67, 84])))⟩, ⟨(some 8), none, (.pick (.s 5) (.c (.bool true)) (.s 7))⟩, ⟨(some 9), none, (.mov (.s 8))⟩, ⟨(some 10), (some (9, false)), (.mov (.s 0))⟩, ⟨(some 11), (some (9, false)), (.bin .eql (.s 10) (.c (.str [70, 82, 79, 77])))⟩, ⟨(some 12), none, (.pick (.s 9) (.c (.bool true)) (.s 11))⟩, ⟨(some 13), none, (.mov (.s 12))⟩, ⟨(some 14), (some (13, false)), (.mov (.s 0))⟩, ⟨(some 15), (some (13, false)), (.bin .eql (.s 14) (.c (.str [87, 72, 69, 82, 69])))⟩, ⟨(some 16), none, (.pick (.s 13) (.c (.bool true)) (.s 15))⟩, ⟨(some 17), none, (.mov (.s 16))⟩, ⟨(some 18), (some (17, false)), (.mov (.s 0))⟩, ⟨(some 19), (some (17, false)), (.bin .eql (.s 18) (.c (.str [85, 78, 73, 79, 78])))⟩, ⟨(some 20), none, (.pick (.s 17) (.c (.bool true)) (.s 19))⟩, ⟨(some 21), none, (.mov (.s 20))⟩, ⟨(some 22), (some (21, false)), (.mov (.s 0))⟩, ⟨(some 23), (some (21, false)), (.bin .eql (.s 22) (.c (.str [65, 76, 76])))⟩, ⟨(some 24), none, (.pick (.s 21) (.c (.bool true)) (.s 23))⟩, ⟨(some 25), none, (.mov (.s 24))⟩, ⟨(some 26), (some (25, false)), (.mov (.s 0))⟩, ⟨(some 27), (some (25, false)), (.bin .eql (.s 26) (.c (.str [65, 78, 89])))⟩, ⟨(some 28), none, (.pick (.s 25) (.c (.bool true)) (.s 27))⟩, ⟨(some 29), none, (.mov (.s 28))⟩, ⟨(some 30), (some (29, false)), (.mov (.s 0))⟩, ⟨(some 31), (some (29, false)), (.bin .eql (.s 30) (.c (.str [65, 78, 68])))⟩, ⟨(some 32), none, (.pick (.s 29) (.c (.bool true)) (.s 31))⟩, ⟨(some 33), none, (.mov (.s 32))⟩, ⟨(some 34), (some (33, false)), (.mov (.s 0))⟩, ⟨(some 35), (some (33, false)), (.bin .eql (.s 34) (.c (.str [79, 82])))⟩, ⟨(some 36), none, (.pick (.s 33) (.c (.bool true)) (.s 35))⟩, ⟨(some 37), none, (.mov (.s 36))⟩, ⟨(some 38), (some (37, false)), (.mov (.s 0))⟩, ⟨(some 39), (some (37, false)), (.bin .eql (.s 38) (.c (.str [78, 79, 84])))⟩, ⟨(some 40), none, (.pick (.s 37) (.c (.bool true)) (.s 39))⟩, ⟨(some 41), none, (.mov (.s 40))⟩, ⟨(some 42), (some (41, false)), (.mov (.s 0))⟩, ⟨(some 43), (some (41, false)), (.bin .eql (.s 42) (.c (.str [69, 88, 73, 83, 84, 83])))⟩, ⟨(some 44), none, (.pick (.s 41) (.c (.bool true)) (.s 43))⟩, ⟨(some 45), none, (.mov (.s 44))⟩, ⟨(some 46), (some (45, false)), (.mov (.s 0))⟩, ⟨(some 47), (some (45, false)), (.bin .eql (.s 46) (.c (.str [73, 78])))⟩, ⟨(some 48), none, (.pick (.s 45) (.c (.bool true)) (.s 47))⟩, ⟨(some 49), none, (.mov (.s 48))⟩, ⟨(some 50), (some (49, false)), (.mov (.s 0))⟩, ⟨(some 51), (some (49, false)), (.bin .eql (.s 50) (.c (.str [73, 83])))⟩, ⟨(some 52), none, (.pick (.s 49) (.c (.bool true)) (.s 51))⟩, ⟨(some 53), none, (.mov (.s 52))⟩, ⟨(some 54), (some (53, false)), (.mov (.s 0))⟩, ⟨(some 55), (some (53, false)), (.bin .eql (.s 54) (.c (.str [78, 85, 76, 76])))⟩, ⟨(some 56), none, (.pick (.s 53) (.c (.bool true)) (.s 55))⟩, ⟨(some 57), none, (.mov (.s 56))⟩, ⟨(some 58), (some (57, false)), (.mov (.s 0))⟩, ⟨(some 59), (some (57, false)), (.bin .eql (.s 58) (.c (.str [67, 79, 85, 78, 84])))⟩, ⟨(some 60), none, (.pick (.s 57) (.c (.bool true)) (.s 59))⟩, ⟨(some 61), none, (.mov (.s 60))⟩, ⟨(some 62), (some (61, false)), (.mov (.s 0))⟩, ⟨(some 63), (some (61, false)), (.bin .eql (.s 62) (.c (.str [77, 73, 78])))⟩, ⟨(some 64), none, (.pick (.s 61) (.c (.bool true)) (.s 63))⟩, ⟨(some 65), none, (.mov (.s 64))⟩, ⟨(some 66), (some (65, false)), (.mov (.s 0))⟩, ⟨(some 67), (some (65, false)), (.bin .eql (.s 66) (.c (.str [77, 65, 88])))⟩, ⟨(some 68), none, (.pick (.s 65) (.c (.bool true)) (.s 67))⟩, ⟨(some 2), none, (.mov (.s 68))⟩]) .ret))⟩
theorem p164 : prepF Try.prog 164 = some c164 := by kernel_rfl
def c166 : F := ⟨17, [(.tmp 2)], (.seq (.reg [⟨(some 2), none, (.mov (.c (.bool false)))⟩]) (.seq (.reg [⟨(some 3), none, (.mov (.s 0))⟩, ⟨(some 4), none, (.bin .geq (.s 3) (.c (.e (.v (.int .u8 97)))))⟩, ⟨(some 5), none, (.mov (.s 4))⟩, ⟨(some 6), (some (5, true)), (.mov (.s 0))⟩, ⟨(some 7), (some (5, true)), (.bin .leq (.s 6) (.c (.e (.v (.int .u8 122)))))⟩, ⟨(some 8), none, (.pick (.s 5) (.s 7) (.c (.bool false)))⟩, ⟨(some 9), none, (.mov (.s 8))⟩, ⟨(some 10), (some (9, false)), (.mov (.s 0))⟩, ⟨(some 11), (some (9, false)), (.bin .geq (.s 10) (.c (.e (.v (.int .u8 65)))))⟩, ⟨(some 12), (some (9, false)), (.mov (.s 11))⟩, ⟨(some 13), (some (12, true)), (.mov (.s 0))⟩, ⟨(some 14), (some (12, true)), (.bin .leq (.s 13) (.c (.e (.v (.int .u8 90)))))⟩, ⟨(some 15), (some (9, false)), (.pick (.s 12) (.s 14) (.c (.bool false)))⟩, ⟨(some 16), none, (.pick (.s 9) (.c (.bool true)) (.s 15))⟩, ⟨(some 2), none, (.mov (.s 16))⟩]) .ret))⟩
theorem p166 : prepF Try.prog 166 = some c166 := by kernel_rfl
def c167 : F := ⟨22, [(.tmp 2)], (.seq (.reg [⟨(some 2), none, (.mov (.c (.bool false)))⟩]) (.seq (.seq (.reg [⟨(some 3), none, (.mov (.s 0))⟩]) (.block 0 (.seq (.seq (.reg [⟨(some 5), none, (.bin .eql (.s 3) (.c (.str [83, 69, 76, 69, 67, 84])))⟩, ⟨(some 4), none, (.mov (.s 5))⟩]) (.cond (.s 4) .skip (.seq (.reg [⟨(some 6), none, (.bin .eql (.s 3) (.c (.str [68, 73, 83, 84, 73, 78, 67, 84])))⟩, ⟨(some 4), none, (.mov (.s 6))⟩]) (.cond (.s 4) .skip (.seq (.reg [⟨(some 7), none, (.bin .eql (.s 3) (.c (.str [70, 82, 79, 77])))⟩, ⟨(some 4), none, (.mov (.s 7))⟩]) (.cond (.s 4) .skip (.seq (.reg [⟨(some 8), none, (.bin .eql (.s 3) (.c (.str [87, 72, 69, 82, 69])))⟩, ⟨(some 4), none, (.mov (.s 8))⟩]) (.cond (.s 4) .skip (.seq (.reg [⟨(some 9), none, (.bin .eql (.s 3) (.c (.str [85, 78, 73, 79, 78])))⟩, ⟨(some 4), none, (.mov (.s 9))⟩]) (.cond (.s 4) .skip (.seq (.reg [⟨(some 10), none, (.bin .eql (.s 3) (.c (.str [65, 76, 76])))⟩, ⟨(some 4), none, (.mov (.s 10))⟩]) (.cond (.s 4) .skip (.seq (.reg [⟨(some 11), none, (.bin .eql (.s 3) (.c (.str [65, 78, 89])))⟩, ⟨(some 4), none, (.mov (.s 11))⟩]) (.cond (.s 4) .skip (.seq (.reg [⟨(some 12), none, (.bin .eql (.s 3) (.c (.str [65, 78, 68])))⟩, ⟨(some 4), none, (.mov (.s 12))⟩]) (.cond (.s 4) .skip (.seq (.reg [⟨(some 13), none, (.bin .eql (.s 3) (.c (.str [79, 82])))⟩, ⟨(some 4), none, (.mov (.s 13))⟩]) (.cond (.s 4) .skip (.seq (.reg [⟨(some 14), none, (.bin .eql (.s 3) (.c (.str [78, 79, 84])))⟩, ⟨(some 4), none, (.mov (.s 14))⟩]) (.cond (.s 4) .skip (.seq (.reg [⟨(some 15), none, (.bin .eql (.s 3) (.c (.str [69, 88, 73, 83, 84, 83])))⟩, ⟨(some 4), none, (.mov (.s 15))⟩]) (.cond (.s 4) .skip (.seq (.reg [⟨(some 16), none, (.bin .eql (.s 3) (.c (.str [73, 78])))⟩, ⟨(some 4), none, (.mov (.s 16))⟩]) (.cond (.s 4) .skip (.seq (.reg [⟨(some 17), none, (.bin .eql (.s 3) (.c (.str [73, 83])))⟩, ⟨(some 4), none, (.mov (.s 17))⟩]) (.cond (.s 4) .skip (.seq (.reg [⟨(some 18), none, (.bin .eql (.s 3) (.c (.str [78, 85, 76, 76])))⟩, ⟨(some 4), none, (.mov (.s 18))⟩]) (.cond (.s 4) .skip (.seq (.reg [⟨(some 19), none, (.bin .eql (.s 3) (.c (.str [67, 79, 85, 78, 84])))⟩, ⟨(some 4), none, (.mov (.s 19))⟩]) (.cond (.s 4) .skip (.seq (.reg [⟨(some 20), none, (.bin .eql (.s 3) (.c (.str [77, 73, 78])))⟩, ⟨(some 4), none, (.mov (.s 20))⟩]) (.cond (.s 4) .skip (.reg [⟨(some 21), none, (.bin .eql (.s 3) (.c (.str [77, 65, 88])))⟩, ⟨(some 4), none, (.mov (.s 21))⟩]))))))))))))))))))))))))))))))))) (.cond (.s 4) (.seq (.reg [⟨(some 2), none, (.mov (.c (.bool true)))⟩]) .ret) .skip)))) (.seq (.reg [⟨(some 2), none, (.mov (.c (.bool false)))⟩]) .ret)))⟩
theorem p167 : prepF Try.prog 167 = some c167 := by kernel_rfl
def c168 : F := ⟨9, [(.tmp 2)], (.seq (.reg [⟨(some 2), none, (.mov (.c (.bool false)))⟩]) (.seq (.reg [⟨(some 3), none, (.mov (.s 0))⟩, ⟨(some 4), none, (.bin .geq (.s 3) (.c (.e (.v (.int .u8 48)))))⟩, ⟨(some 5), none, (.mov (.s 4))⟩, ⟨(some 6), (some (5, true)), (.mov (.s 0))⟩, ⟨(some 7), (some (5, true)), (.bin .leq (.s 6) (.c (.e (.v (.int .u8 57)))))⟩, ⟨(some 8), none, (.pick (.s 5) (.s 7) (.c (.bool false)))⟩, ⟨(some 2), none, (.mov (.s 8))⟩]) .ret))⟩
theorem p168 : prepF Try.prog 168 = some c168 := by kernel_rfl
def c192 : F := ⟨17, [(.tmp 2)], (.seq (.reg [⟨(some 2), none, (.mov (.c (.bool false)))⟩]) (.seq (.reg [⟨(some 3), none, (.mov (.s 0))⟩, ⟨(some 4), none, (.bin .geq (.s 3) (.c (.e (.v (.int .u8 65)))))⟩, ⟨(some 5), none, (.mov (.s 4))⟩, ⟨(some 6), (some (5, true)), (.mov (.s 0))⟩, ⟨(some 7), (some (5, true)), (.bin .leq (.s 6) (.c (.e (.v (.int .u8 90)))))⟩, ⟨(some 8), none, (.pick (.s 5) (.s 7) (.c (.bool false)))⟩, ⟨(some 9), none, (.mov (.s 8))⟩, ⟨(some 10), (some (9, false)), (.mov (.s 0))⟩, ⟨(some 11), (some (9, false)), (.bin .geq (.s 10) (.c (.e (.v (.int .u8 97)))))⟩, ⟨(some 12), (some (9, false)), (.mov (.s 11))⟩, ⟨(some 13), (some (12, true)), (.mov (.s 0))⟩, ⟨(some 14), (some (12, true)), (.bin .leq (.s 13) (.c (.e (.v (.int .u8 122)))))⟩, ⟨(some 15), (some (9, false)), (.pick (.s 12) (.s 14) (.c (.bool false)))⟩, ⟨(some 16), none, (.pick (.s 9) (.c (.bool true)) (.s 15))⟩, ⟨(some 2), none, (.mov (.s 16))⟩]) .ret))⟩
theorem p192 : prepF Try.prog 192 = some c192 := by kernel_rfl
def c193 : F := ⟨9, [(.tmp 2)], (.seq (.reg [⟨(some 2), none, (.mov (.c (.bool false)))⟩]) (.seq (.reg [⟨(some 3), none, (.mov (.s 0))⟩, ⟨(some 4), none, (.bin .geq (.s 3) (.c (.e (.v (.int .u8 48)))))⟩, ⟨(some 5), none, (.mov (.s 4))⟩, ⟨(some 6), (some (5, true)), (.mov (.s 0))⟩, ⟨(some 7), (some (5, true)), (.bin .leq (.s 6) (.c (.e (.v (.int .u8 57)))))⟩, ⟨(some 8), none, (.pick (.s 5) (.s 7) (.c (.bool false)))⟩, ⟨(some 2), none, (.mov (.s 8))⟩]) .ret))⟩
theorem p193 : prepF Try.prog 193 = some c193 := by kernel_rfl
end Go.Proofs.Ytfplalbognalkaa.Ab
/- The laws' helpers over rows of rows and tables: measured, copied, alike. -/
namespace Go.Proofs.Ytfplalbognalkaa.Ab
open Go
abbrev rsr (r : List (Bool × Int)) : List E := [E.sl (r.map vr)]
abbrev Tb := List UInt8 × Int × List (List (Bool × Int))
abbrev tbr (t : Tb) : List E := [E.str t.1, E.int t.2.1, E.sl (t.2.2.map rsr)]
theorem row_at {α : Type} {f : α → List E} {l : List α} {es : List (List E)} (he : es = l.map f) {n : Int} (h : 0 ≤ n ∧ n < es.length) : ∃ p, es.getD n.toNat [] = f p ∧ l[n.toNat]? = some p := by
  subst he
  have hn : n.toNat < l.length := by simp at h; omega
  exact ⟨l[n.toNat], by simp [List.getD, hn], by simp [hn]⟩
/-- What is left of a budget; -1: it did not do. -/
def cut (left t : Int) : Int := if left - t < 0 then -1 else left - t
def sumC {α : Type} (c : α → Int) : List α → Int
  | [] => 0
  | a :: l => c a + sumC c l
theorem sumC_nonneg {α : Type} {c : α → Int} (h : ∀ a, 0 ≤ c a) : ∀ l : List α, 0 ≤ sumC c l
  | [] => Int.le_refl _
  | a :: l => by have := h a; have := sumC_nonneg h l; simp only [sumC]; omega
theorem sumC_drop {α : Type} {c : α → Int} {l : List α} {i : Nat} {p : α} (h : l[i]? = some p) : sumC c (l.drop i) = c p + sumC c (l.drop (i + 1)) := by
  obtain ⟨a, b⟩ := List.getElem?_eq_some_iff.1 h
  rw [List.drop_eq_getElem_cons a, b]
  rfl
theorem sumC_mem {α : Type} {c : α → Int} (h : ∀ a, 0 ≤ c a) {l : List α} {p : α} (hp : p ∈ l) : c p ≤ sumC c l := by
  induction l with
  | nil => cases hp
  | cons a l ih =>
    simp only [sumC]
    have := h a
    have := sumC_nonneg h l
    rcases List.mem_cons.1 hp with rfl | hp
    · omega
    · have := ih hp; omega
def cV (r : List (Bool × Int)) : Int := r.length
theorem cV_nonneg (r : List (Bool × Int)) : 0 ≤ cV r := by unfold cV; omega
def cSS (rs : List (List (Bool × Int))) : Int := rs.length + sumC cV rs
theorem cSS_nonneg (rs : List (List (Bool × Int))) : 0 ≤ cSS rs := by have := sumC_nonneg cV_nonneg rs; unfold cSS; omega
def cT (t : Tb) : Int := t.1.length + cSS t.2.2
theorem cT_nonneg (t : Tb) : 0 ≤ cT t := by have := cSS_nonneg t.2.2; unfold cT; omega
def cTS (ts : List Tb) : Int := ts.length + sumC cT ts
theorem cTS_nonneg (ts : List Tb) : 0 ≤ cTS ts := by have := sumC_nonneg cT_nonneg ts; unfold cTS; omega
theorem ok57c (r : List (Bool × Int)) (x : List (List E)) (hx : x = r.map vr) (left : Int) (h : 0 ≤ left ∧ left ≤ 1048576) : Plain Try.prog 57 [.e (.sl x), .int left] (.int (cut left (cV r))) := by
  have := ok57 x left h
  rw [show x.length = r.length by rw [hx]; simp] at this
  exact this
set_option maxRecDepth 100000 in
theorem ok16 (l : List (List (Bool × Int))) (es : List (List E)) (he : es = l.map rsr) (left : Int) (h : 0 ≤ left ∧ left ≤ 1048576) : Plain Try.prog 16 [.e (.sl es), .int left] (.int (cut left (l.length + sumC cV l))) := okOf mixed p16 fun A P hA hP => (by
  have hl1 : es.length = l.length := by rw [he]; simp
  have hsn : ∀ l : List (List (Bool × Int)), 0 ≤ sumC cV l := sumC_nonneg cV_nonneg
  obtain ⟨r, hr⟩ : ∃ r, r = cut left (l.length + sumC cV l) := ⟨_, rfl⟩
  rw [← hr]
  have hr2 : r = cut (left - es.length) (sumC cV l) := by rw [hr, hl1, cut, cut]; congr 1 <;> (try apply propext) <;> omega
  clear hr
  cbv
  repeat' first | with_reducible rfl | with_reducible refine And.intro ?_ ?_ | ((with_reducible intro hcc); first | (cases hcc; done) | skip) | ((with_reducible show goC _ _ _ _ _ _ _ _); cbv) | ((with_reducible show goOps _ _ _ _ _); cbv) | ((with_reducible show okWr _ _ = _); rfl) | ((with_reducible refine hA.fin_pl _ _ _ ?_); cbv) | ((with_reducible refine hA.len _ _ _ _ _ fun z hz hb => ?_); cbv) | ((with_reducible refine hA.off _ _ _ _ fun b hb => ?_); cbv) | ((with_reducible refine hA.sapp _ _ _ ⟨?_, fun sl hsl => ?_⟩); rotate_left; cbv) | (simp only [hA.natLit, hA.natOf, hA.natCast]; cbv)
  all_goals try simp only [hA.add, hA.sub, hA.mul, hA.neg, hA.div, hA.mod, hA.mn, hA.mx, hA.eq, hA.lt, hA.le, hA.nat, hA.R, hA.lep, hA.ltp, hA.seq, inR, n_cast, Int.ofNat_eq_natCast, Option.getD_some, Option.getD_none] at *
  all_goals try (first | omega | (have := hb trivial trivial trivial; omega) | (have : r = -1 := (by simp only [decide_eq_true_eq] at *; have := hsn l; rw [hr2]; unfold cut; split <;> omega); rw [this]; done))
  · refine hA.loopI (fun n s => ∃ (i lf : Int), 0 ≤ i ∧ n + i = es.length ∧ 0 ≤ lf ∧ lf ≤ 1048576 ∧ r = cut lf (sumC cV (l.drop i.toNat)) ∧
        s = ⟨[(5, .int i), (0, .e (.sl es)), (1, .int lf), (4, .int 0)], []⟩) es.length _
      (Weak.keep (env' := [(5, .int 0), (0, .e (.sl es)), (1, .int (left - z)), (4, .int 0)]) ⟨rfl, rfl, rfl, rfl, trivial⟩) ⟨0, left - z, by omega, by omega, by simp only [decide_eq_false_iff_not] at *; omega, by omega, (by rw [hr2, hz]; rfl), rfl⟩ ?_
    rintro n s K ⟨i, lf, h0, h1, h2, h3, h4, rfl⟩ hK
    clear hr2
    by_cases hin : (0 : Int) ≤ i ∧ i < es.length
    · obtain ⟨r1, e1, q1⟩ := row_at he hin
      obtain ⟨x1, hx1⟩ : ∃ x, x = r1.map vr := ⟨_, rfl⟩
      have e1 : es.getD i.toNat [] = [E.sl x1] := e1.trans (by rw [hx1])
      rw [sumC_drop q1] at h4
      obtain ⟨S, hS⟩ : ∃ S, S = sumC cV (l.drop (i.toNat + 1)) := ⟨_, rfl⟩
      have hS0 : 0 ≤ S := hS ▸ hsn _
      obtain ⟨c, hcost⟩ : ∃ c, c = cV r1 := ⟨_, rfl⟩
      have hc0 : 0 ≤ c := hcost ▸ cV_nonneg _
      have hc := ok57c r1 x1 hx1 lf ⟨h2, h3⟩
      rw [← hS, ← hcost] at h4
      rw [← hcost] at hc
      obtain ⟨u, hu⟩ : ∃ u, u = cut lf c := ⟨_, rfl⟩
      rw [← hu] at hc
      have e8 : (i + 1).toNat = i.toNat + 1 := by omega
      have g1 : u < 0 → r = -1 := fun a => by rw [h4]; unfold cut at hu ⊢; split at hu <;> split <;> omega
      have g2 : 0 ≤ u → r = cut u S ∧ u ≤ lf := fun a => by
        have hu2 : u = lf - c := by rw [hu] at a ⊢; unfold cut at a ⊢; split at a <;> split <;> omega
        refine ⟨?_, by omega⟩
        rw [h4, hu2]
        unfold cut
        rw [show lf - (c + S) = lf - c - S by omega]
      clear h4 hu hcost
      cbv
      repeat' first | with_reducible rfl | with_reducible refine And.intro ?_ ?_ | ((with_reducible intro hcc); first | (cases hcc; done) | skip) | ((with_reducible show goC _ _ _ _ _ _ _ _); cbv) | ((with_reducible show goOps _ _ _ _ _); cbv) | ((with_reducible show okWr _ _ = _); rfl) | ((with_reducible refine callK_eq hA hP ?_ ?_ ?_ (Wks.refl _) (fun _ _ => hc)); exact rfl; exact rfl; cbv) | ((with_reducible refine hA.row es _ _ ⟨hin, fun row hrow => ?_⟩); rw [e1] at hrow; subst hrow; cbv) | ((with_reducible refine hA.fin_pl _ _ _ ?_); cbv) | ((with_reducible refine hA.len _ _ _ _ _ fun z hz hb => ?_); cbv) | ((with_reducible refine hA.off _ _ _ _ fun b hb => ?_); cbv) | ((with_reducible refine hA.sapp _ _ _ ⟨?_, fun sl hsl => ?_⟩); rotate_left; cbv) | (simp only [hA.natLit, hA.natOf, hA.natCast]; cbv)
      all_goals try simp only [hA.add, hA.sub, hA.mul, hA.neg, hA.div, hA.mod, hA.mn, hA.mx, hA.eq, hA.lt, hA.le, hA.nat, hA.R, hA.lep, hA.ltp, hA.seq, inR, n_cast, Int.ofNat_eq_natCast, Option.getD_some, Option.getD_none] at *
      all_goals first
        | omega
        | (clear hK g1 g2 he; simp at *; omega)
        | (rw [g1 (by clear hK g2; simp at *; omega)]; done)
        | (have hu0 : 0 ≤ u := (by clear hK; simp at *; omega)
           exact hK _ (n - 1) _ (by omega) (Weak.keep (env' := [(5, .int (i + 1)), (0, .e (.sl es)), (1, .int u), (4, .int 0)]) ⟨rfl, rfl, rfl, rfl, trivial⟩) ⟨i + 1, u, by omega, by omega, hu0, by have := (g2 hu0).2; omega, by rw [e8, ← hS]; exact (g2 hu0).1, rfl⟩)
        | (clear hK g1 g2 he; simp at *; omega)
        | (trace_state; fail)
    · have hd : l.drop i.toNat = [] := by rw [List.drop_eq_nil_iff]; omega
      rw [hd] at h4
      have h5 : r = lf := by rw [h4, sumC, cut, if_neg (by omega)]; omega
      clear h4 hK
      cbv
      repeat' first | with_reducible rfl | with_reducible refine And.intro ?_ ?_ | ((with_reducible intro hcc); first | (cases hcc; done) | skip) | ((with_reducible show goC _ _ _ _ _ _ _ _); cbv) | ((with_reducible show goOps _ _ _ _ _); cbv) | ((with_reducible show okWr _ _ = _); rfl) | (exfalso; simp only [hA.lt, hA.sub, decide_eq_true_eq, decide_eq_false_iff_not, n_cast] at *; omega) | ((with_reducible refine hA.fin_pl _ _ _ ?_); cbv) | ((with_reducible refine hA.len _ _ _ _ _ fun z hz hb => ?_); cbv) | ((with_reducible refine hA.off _ _ _ _ fun b hb => ?_); cbv) | ((with_reducible refine hA.sapp _ _ _ ⟨?_, fun sl hsl => ?_⟩); rotate_left; cbv) | (simp only [hA.natLit, hA.natOf, hA.natCast]; cbv)
      all_goals try simp only [hA.add, hA.sub, hA.mul, hA.neg, hA.div, hA.mod, hA.mn, hA.mx, hA.eq, hA.lt, hA.le, hA.nat, hA.R, hA.lep, hA.ltp, hA.seq, inR, n_cast, Int.ofNat_eq_natCast, Option.getD_some, Option.getD_none] at *
      all_goals first
        | (rw [h5])
        | omega
        | (clear he; simp at *; omega)
        | (trace_state; fail))
set_option maxRecDepth 100000 in
set_option maxHeartbeats 1000000 in
theorem ok18 (l : List (List (Bool × Int))) (es : List (List E)) (he : es = l.map rsr) (hlen : es.length ≤ 1048576) (hb2 : ∀ r ∈ l, r.length ≤ 1048576) : Plain Try.prog 18 [.e (.sl es)] (.e (.sl es)) := okOf mixed p18 fun A P hA hP => (by
  have hl1 : es.length = l.length := by rw [he]; simp
  have hes : ∀ e ∈ es, e.length = 1 := by
    rw [he]
    intro e h
    obtain ⟨p, _, rfl⟩ := List.mem_map.1 h
    rfl
  cbv
  repeat' first | with_reducible rfl | with_reducible refine And.intro ?_ ?_ | ((with_reducible intro hcc); first | (cases hcc; done) | skip) | ((with_reducible show goC _ _ _ _ _ _ _ _); cbv) | ((with_reducible show goOps _ _ _ _ _); cbv) | ((with_reducible show okWr _ _ = _); rfl) | ((with_reducible refine hA.fin_pl _ _ _ ?_); cbv) | ((with_reducible refine hA.len _ _ _ _ _ fun z hz hb => ?_); cbv) | ((with_reducible refine hA.off _ _ _ _ fun b hb => ?_); cbv) | ((with_reducible refine hA.rep _ _ _ fun ds m hds hm => ?_); cbv) | ((with_reducible refine hA.st _ _ _ _ _ ⟨?_, fun ds hds => ?_⟩); rotate_left; cbv) | ((with_reducible refine hA.alt _ _ (Or.inl ?_)); cbv) | ((with_reducible refine hA.sapp _ _ _ ⟨?_, fun sl hsl => ?_⟩); rotate_left; cbv) | (simp only [hA.natLit, hA.natOf, hA.natCast]; cbv)
  all_goals try simp only [hA.add, hA.sub, hA.mul, hA.neg, hA.div, hA.mod, hA.mn, hA.mx, hA.eq, hA.lt, hA.le, hA.nat, hA.R, hA.lep, hA.ltp, hA.seq, inR, n_cast, Int.ofNat_eq_natCast, Option.getD_some, Option.getD_none] at *
  · omega
  · omega
  · refine hA.loopI (fun n s => ∃ (i : Int) (xs : List (List E)), 0 ≤ i ∧ n + i = es.length ∧ xs.length = es.length ∧ (∀ e ∈ xs, e.length = 1) ∧ (∀ j : Nat, j < i → xs[j]? = es[j]?) ∧
        s = ⟨[(4, .int i), (3, .bs 0 0 m 1), (2, .zs), (0, .e (.sl es))], [.box (xs.flatten.map .e)]⟩) es.length _
      (Weak.keep (env' := [(4, .int 0), (3, .bs 0 0 m 1), (2, .zs), (0, .e (.sl es))]) ⟨rfl, rfl, rfl, rfl, trivial⟩)
      ⟨0, List.replicate m [E.sl []], by omega, by omega, by simp; omega, by simp, fun j hj => by omega, by rw [← buf_zero, hm]; rw [hds]; rfl⟩ ?_
    rintro n s K ⟨i, xs, h0, h1, h2, h3, h4, rfl⟩ hK
    obtain ⟨ys, hys⟩ : ∃ ys, ys = xs.flatten.map D.e := ⟨_, rfl⟩
    have hyl : ys.length = xs.length * 1 := by rw [hys, List.length_map, flatten_len h3]
    rw [← hys]
    by_cases hin : (0 : Int) ≤ i ∧ i < es.length
    · obtain ⟨r1, e1, q1⟩ := row_at he hin
      obtain ⟨x1, hx1⟩ : ∃ x, x = r1.map vr := ⟨_, rfl⟩
      have e1 : es.getD i.toNat [] = [E.sl x1] := e1.trans (by rw [hx1])
      have hc := ok58 r1 x1 hx1 (by have := hb2 r1 (List.mem_of_getElem? q1); rw [hx1, List.length_map]; omega)
      have hrow0 : es[i.toNat]? = some (es.getD i.toNat []) := by
        have : i.toNat < es.length := by omega
        simp [List.getD, this]
      have hrl : (es.getD i.toNat []).length = 1 := hes _ (List.mem_of_getElem? hrow0)
      cbv
      repeat' first | with_reducible rfl | with_reducible refine And.intro ?_ ?_ | ((with_reducible intro hcc); first | (cases hcc; done) | skip) | ((with_reducible show goC _ _ _ _ _ _ _ _); cbv) | ((with_reducible show goOps _ _ _ _ _); cbv) | ((with_reducible show okWr _ _ = _); rfl) | ((with_reducible refine callK_eq hA hP ?_ ?_ ?_ (Wks.refl _) (fun _ _ => hc)); exact rfl; exact rfl; cbv) | ((with_reducible refine hA.row es _ _ ⟨hin, fun row hrow => ?_⟩); rw [e1] at hrow; subst hrow; cbv) | ((with_reducible refine hA.fin_pl _ _ _ ?_); cbv) | ((with_reducible refine hA.len _ _ _ _ _ fun z hz hb => ?_); cbv) | ((with_reducible refine hA.off _ _ _ _ fun b hb => ?_); cbv) | ((with_reducible refine hA.rep _ _ _ fun ds m hds hm => ?_); cbv) | ((with_reducible refine hA.st _ _ _ _ _ ⟨?_, fun ds hds => ?_⟩); rotate_left; cbv) | ((with_reducible refine hA.alt _ _ (Or.inl ?_)); cbv) | ((with_reducible refine hA.sapp _ _ _ ⟨?_, fun sl hsl => ?_⟩); rotate_left; cbv) | (simp only [hA.natLit, hA.natOf, hA.natCast]; cbv)
      all_goals try simp only [hA.add, hA.sub, hA.mul, hA.neg, hA.div, hA.mod, hA.mn, hA.mx, hA.eq, hA.lt, hA.le, hA.nat, hA.R, hA.lep, hA.ltp, hA.seq, inR, n_cast, Int.ofNat_eq_natCast, Option.getD_some, Option.getD_none] at *
      all_goals first
        | (show _ < (m : Int); omega)
        | omega
        | (clear hK h4 he; grind; done)
        | (have hb' : b = i.toNat * 1 := by omega
           refine hK _ (n - 1) _ (by omega) (Weak.keep (env' := [(4, .int (i + 1)), (3, .bs 0 0 m 1), (2, .zs), (0, .e (.sl es))]) ⟨rfl, rfl, rfl, rfl, trivial⟩)
             ⟨i + 1, xs.set i.toNat (es.getD i.toNat []), by omega, by omega, by simp [h2], fun e h => ?_, fun j hj => ?_, ?_⟩
           · rcases List.mem_or_eq_of_mem_set h with h | rfl
             · exact h3 e h
             · exact hrl
           · by_cases hji : (j : Int) < i
             · rw [List.getElem?_set_ne (show i.toNat ≠ j by omega)]; exact h4 j hji
             · have : j = i.toNat := by omega
               subst this
               rw [List.getElem?_set_self (show i.toNat < xs.length by omega), hrow0]
           · congr 2
             rw [hds, hys, hb']
             congr 1
             have q := buf_set (k := 1) (by omega) h3 (i := i.toNat) (show i.toNat < xs.length by omega) hrl
             rw [e1] at q ⊢
             exact q)
    · have hxe : xs = es := by
        refine List.ext_getElem? fun j => ?_
        by_cases hj : (j : Int) < i
        · exact h4 j hj
        · rw [List.getElem?_eq_none (by omega), List.getElem?_eq_none (by omega)]
      cbv
      repeat' first | with_reducible rfl | with_reducible refine And.intro ?_ ?_ | ((with_reducible intro hcc); first | (cases hcc; done) | skip) | ((with_reducible show goC _ _ _ _ _ _ _ _); cbv) | ((with_reducible show goOps _ _ _ _ _); cbv) | ((with_reducible show okWr _ _ = _); rfl) | (exfalso; simp only [hA.lt, hA.sub, decide_eq_true_eq, decide_eq_false_iff_not, n_cast] at *; omega) | ((with_reducible refine hA.fin_bs (es := es) ?_ ?_ hes)) | ((with_reducible refine hA.fin_pl _ _ _ ?_); cbv) | ((with_reducible refine hA.len _ _ _ _ _ fun z hz hb => ?_); cbv) | ((with_reducible refine hA.off _ _ _ _ fun b hb => ?_); cbv) | ((with_reducible refine hA.rep _ _ _ fun ds m hds hm => ?_); cbv) | ((with_reducible refine hA.st _ _ _ _ _ ⟨?_, fun ds hds => ?_⟩); rotate_left; cbv) | ((with_reducible refine hA.alt _ _ (Or.inl ?_)); cbv) | ((with_reducible refine hA.sapp _ _ _ ⟨?_, fun sl hsl => ?_⟩); rotate_left; cbv) | (simp only [hA.natLit, hA.natOf, hA.natCast]; cbv)
      all_goals try simp only [hA.add, hA.sub, hA.mul, hA.neg, hA.div, hA.mod, hA.mn, hA.mx, hA.eq, hA.lt, hA.le, hA.nat, hA.R, hA.lep, hA.ltp, hA.seq, inR, n_cast, Int.ofNat_eq_natCast, Option.getD_some, Option.getD_none] at *
      all_goals first
        | (rw [hys, hxe]; rfl)
        | omega
        | (clear hK h4 he; grind; done)
        | (trace_state; fail))
set_option maxRecDepth 100000 in
theorem ok19 (l l' : List (List (Bool × Int))) (es fs : List (List E)) (he : es = l.map rsr) (hf : fs = l'.map rsr) : Plain Try.prog 19 [.e (.sl es), .e (.sl fs)] (.bool (decide (l = l'))) := okOf mixed p19 fun A P hA hP => (by
  obtain ⟨r, hr⟩ : ∃ r : Bool, r = decide (l = l') := ⟨_, rfl⟩
  rw [← hr]
  have hl1 : es.length = l.length := by rw [he]; simp
  have hl2 : fs.length = l'.length := by rw [hf]; simp
  cbv
  repeat' first | with_reducible rfl | with_reducible refine And.intro ?_ ?_ | ((with_reducible intro hcc); first | (cases hcc; done) | skip) | ((with_reducible show goC _ _ _ _ _ _ _ _); cbv) | ((with_reducible show goOps _ _ _ _ _); cbv) | ((with_reducible show okWr _ _ = _); rfl) | ((with_reducible refine hA.fin_pl _ _ _ ?_); cbv) | ((with_reducible refine hA.len _ _ _ _ _ fun z hz hb => ?_); cbv) | ((with_reducible refine hA.off _ _ _ _ fun b hb => ?_); cbv) | ((with_reducible refine hA.sapp _ _ _ ⟨?_, fun sl hsl => ?_⟩); rotate_left; cbv) | (simp only [hA.natLit, hA.natOf, hA.natCast]; cbv)
  all_goals try simp only [hA.add, hA.sub, hA.mul, hA.neg, hA.div, hA.mod, hA.mn, hA.mx, hA.eq, hA.lt, hA.le, hA.nat, hA.R, hA.lep, hA.ltp, hA.seq, inR, n_cast, Int.ofNat_eq_natCast, Option.getD_some, Option.getD_none] at *
  · have : l ≠ l' := fun e => by subst e; clear hr; grind
    rw [hr]; simp [this]
  · have hzz : es.length = fs.length := by clear hr; grind
    refine hA.loopI (fun n s => ∃ i : Int, 0 ≤ i ∧ n + i = l.length ∧ (∀ j : Nat, j < i → l[j]? = l'[j]?) ∧ s = ⟨[(5, .int i), (4, .bool false), (0, .e (.sl es)), (1, .e (.sl fs))], []⟩) l.length _ (Weak.keep (env' := [(5, .int 0), (4, .bool false), (0, .e (.sl es)), (1, .e (.sl fs))]) ⟨rfl, rfl, rfl, rfl, trivial⟩) ⟨0, by omega, by omega, fun j hj => by omega, rfl⟩ ?_
    rintro n s K ⟨i, h0, h1, h2, rfl⟩ hK
    by_cases hin : (0 : Int) ≤ i ∧ i < es.length
    · have hin2 : (0 : Int) ≤ i ∧ i < fs.length := by omega
      obtain ⟨r1, e1, q1⟩ := row_at he hin
      obtain ⟨r2, e2, q2⟩ := row_at hf hin2
      obtain ⟨x1, hx1⟩ : ∃ x, x = r1.map vr := ⟨_, rfl⟩
      have e1 : es.getD i.toNat [] = [E.sl x1] := e1.trans (by rw [hx1])
      obtain ⟨x2, hx2⟩ : ∃ x, x = r2.map vr := ⟨_, rfl⟩
      have e2 : fs.getD i.toNat [] = [E.sl x2] := e2.trans (by rw [hx2])
      have hc := ok59 r1 r2 x1 x2 hx1 hx2
      obtain ⟨c, hcc⟩ : ∃ c : Bool, c = decide ((r1 : List (Bool × Int)) = r2) := ⟨_, rfl⟩
      rw [← hcc] at hc
      have c1 : c = false → r = false := fun e => by
        rw [hr, decide_eq_false_iff_not]
        intro e'
        subst e'
        rw [q1] at q2
        cases q2
        rw [e] at hcc
        simp at hcc
      have c2 : c = true → l[i.toNat]? = l'[i.toNat]? := fun e => by
        rw [e] at hcc
        rw [q1, q2, of_decide_eq_true hcc.symm]
      clear hcc hr
      cbv
      repeat' first | with_reducible rfl | with_reducible refine And.intro ?_ ?_ | ((with_reducible intro hcc); first | (cases hcc; done) | skip) | ((with_reducible show goC _ _ _ _ _ _ _ _); cbv) | ((with_reducible show goOps _ _ _ _ _); cbv) | ((with_reducible show okWr _ _ = _); rfl) | ((with_reducible refine callK_eq hA hP ?_ ?_ ?_ (Wks.refl _) (fun _ _ => hc)); exact rfl; exact rfl; cbv) | ((with_reducible refine hA.row es _ _ ⟨hin, fun row hrow => ?_⟩); rw [e1] at hrow; subst hrow; cbv) | ((with_reducible refine hA.row fs _ _ ⟨hin2, fun row hrow => ?_⟩); rw [e2] at hrow; subst hrow; cbv) | ((with_reducible refine hA.fin_pl _ _ _ ?_); cbv) | ((with_reducible refine hA.len _ _ _ _ _ fun z hz hb => ?_); cbv) | ((with_reducible refine hA.off _ _ _ _ fun b hb => ?_); cbv) | ((with_reducible refine hA.sapp _ _ _ ⟨?_, fun sl hsl => ?_⟩); rotate_left; cbv) | (simp only [hA.natLit, hA.natOf, hA.natCast]; cbv)
      all_goals try simp only [hA.add, hA.sub, hA.mul, hA.neg, hA.div, hA.mod, hA.mn, hA.mx, hA.eq, hA.lt, hA.le, hA.nat, hA.R, hA.lep, hA.ltp, hA.seq, inR, n_cast, Int.ofNat_eq_natCast, Option.getD_some, Option.getD_none] at *
      all_goals first
        | omega
        | (refine hK _ (n - 1) _ (by omega) (Weak.gc (env' := [(5, .int (i + 1)), (4, .bool false), (0, .e (.sl es)), (1, .e (.sl fs))]) ⟨rfl, rfl, rfl, rfl, trivial⟩ rfl) ⟨i + 1, by omega, by omega, fun j hj => ?_, rfl⟩
           by_cases hji : (j : Int) < i
           · exact h2 j hji
           · have : j = i.toNat := by omega
             rw [this]
             exact c2 (by clear hK h2; grind))
        | (clear hK h2 he hf e1 e2; grind; done)
        | (trace_state; fail)
    · have hll : l = l' := by
        refine List.ext_getElem? fun j => ?_
        by_cases hj : (j : Int) < i
        · exact h2 j hj
        · rw [List.getElem?_eq_none (by omega), List.getElem?_eq_none (by omega)]
      have hr2 : r = true := by rw [hr, hll]; simp
      clear hr
      cbv
      repeat' first | with_reducible rfl | with_reducible refine And.intro ?_ ?_ | ((with_reducible intro hcc); first | (cases hcc; done) | skip) | ((with_reducible show goC _ _ _ _ _ _ _ _); cbv) | ((with_reducible show goOps _ _ _ _ _); cbv) | ((with_reducible show okWr _ _ = _); rfl) | (exfalso; simp only [hA.lt, hA.sub, decide_eq_true_eq, decide_eq_false_iff_not, n_cast] at *; omega) | ((with_reducible refine hA.fin_pl _ _ _ ?_); cbv) | ((with_reducible refine hA.len _ _ _ _ _ fun z hz hb => ?_); cbv) | ((with_reducible refine hA.off _ _ _ _ fun b hb => ?_); cbv) | ((with_reducible refine hA.sapp _ _ _ ⟨?_, fun sl hsl => ?_⟩); rotate_left; cbv) | (simp only [hA.natLit, hA.natOf, hA.natCast]; cbv)
      all_goals try simp only [hA.add, hA.sub, hA.mul, hA.neg, hA.div, hA.mod, hA.mn, hA.mx, hA.eq, hA.lt, hA.le, hA.nat, hA.R, hA.lep, hA.ltp, hA.seq, inR, n_cast, Int.ofNat_eq_natCast, Option.getD_some, Option.getD_none] at *
      all_goals first
        | (rw [hr2])
        | omega
        | (clear hK h2 hll he hf; grind; done)
        | (trace_state; fail))
set_option maxRecDepth 100000 in
theorem ok127 (n1 : List UInt8) (c1 : Int) (rs : List (List (Bool × Int))) (x : List (List E)) (hx : x = rs.map rsr) (left : Int) (h : 0 ≤ left ∧ left ≤ 1048576) : Plain Try.prog 127 [.agg [.str n1, .int c1, .e (.sl x)], .int left] (.int (cut left (cT (n1, c1, rs)))) := okOf mixed p127 fun A P hA hP => (by
  obtain ⟨a, ha⟩ : ∃ a : Int, a = left - n1.length := ⟨_, rfl⟩
  obtain ⟨r, hr⟩ : ∃ r, r = cut left (cT (n1, c1, rs)) := ⟨_, rfl⟩
  rw [← hr]
  have hs := cSS_nonneg rs
  have hr2 : r = if a - cSS rs < 0 then -1 else a - cSS rs := by rw [hr, cut, cT, show left - ((n1.length : Int) + cSS rs) = a - cSS rs by omega]
  clear hr
  by_cases ha0 : a < 0
  · have hrr : r = -1 := by rw [hr2]; split <;> omega
    have hr2 : True := trivial
    cbv
    repeat' first | with_reducible rfl | with_reducible refine And.intro ?_ ?_ | ((with_reducible intro hcc); first | (cases hcc; done) | skip) | ((with_reducible show goC _ _ _ _ _ _ _ _); cbv) | ((with_reducible show goOps _ _ _ _ _); cbv) | ((with_reducible show okWr _ _ = _); rfl) | (exfalso; simp only [hA.lt, hA.sub, decide_eq_true_eq, decide_eq_false_iff_not, n_cast] at *; omega) | ((with_reducible refine hA.fin_pl _ _ _ ?_); cbv) | ((with_reducible refine hA.slen _ _ _ _ _ fun z hz hb => ?_); cbv) | (simp only [hA.natLit, hA.natOf, hA.natCast]; cbv)
    all_goals try simp only [hA.add, hA.sub, hA.mul, hA.neg, hA.div, hA.mod, hA.mn, hA.mx, hA.eq, hA.lt, hA.le, hA.nat, hA.R, hA.lep, hA.ltp, hA.seq, inR, n_cast, Int.ofNat_eq_natCast, Option.getD_some, Option.getD_none] at *
    all_goals first | omega | (rw [hrr]) | (clear hr2; simp at *; omega) | (trace_state; fail)
  · have h46 : ∀ b, b = a → Plain Try.prog 16 [.e (.sl x), .int b] (.int (cut a (cSS rs))) := fun b hb => hb ▸ ok16 rs _ hx a (by omega)
    obtain ⟨u, hu⟩ : ∃ u, u = cut a (cSS rs) := ⟨_, rfl⟩
    rw [← hu] at h46
    rw [cut] at hu
    rw [← hu] at hr2
    cbv
    repeat' first | with_reducible rfl | with_reducible refine And.intro ?_ ?_ | ((with_reducible intro hcc); first | (cases hcc; done) | skip) | ((with_reducible show goC _ _ _ _ _ _ _ _); cbv) | ((with_reducible show goOps _ _ _ _ _); cbv) | ((with_reducible show okWr _ _ = _); rfl) | ((with_reducible refine callK_eq hA hP ?_ ?_ ?_ (Wks.refl _) (fun _ _ => h46 _ ?_)); exact rfl; exact rfl; cbv) | ((with_reducible refine hA.fin_pl _ _ _ ?_); cbv) | ((with_reducible refine hA.slen _ _ _ _ _ fun z hz hb => ?_); cbv) | (simp only [hA.natLit, hA.natOf, hA.natCast]; cbv)
    all_goals try simp only [hA.add, hA.sub, hA.mul, hA.neg, hA.div, hA.mod, hA.mn, hA.mx, hA.eq, hA.lt, hA.le, hA.nat, hA.R, hA.lep, hA.ltp, hA.seq, inR, n_cast, Int.ofNat_eq_natCast, Option.getD_some, Option.getD_none] at *
    all_goals first | omega | (rw [hr2]; done) | (have : u = -1 := (by simp only [decide_eq_true_eq, decide_eq_false_iff_not] at *; split at hu <;> omega); rw [hr2, this]; done) | (clear h46; simp at *; omega) | (trace_state; fail))
set_option maxRecDepth 100000 in
theorem ok72 (l : List (Tb)) (es : List (List E)) (he : es = l.map tbr) (left : Int) (h : 0 ≤ left ∧ left ≤ 1048576) : Plain Try.prog 72 [.e (.sl es), .int left] (.int (cut left (l.length + sumC cT l))) := okOf mixed p72 fun A P hA hP => (by
  have hl1 : es.length = l.length := by rw [he]; simp
  have hsn : ∀ l : List (Tb), 0 ≤ sumC cT l := sumC_nonneg cT_nonneg
  obtain ⟨r, hr⟩ : ∃ r, r = cut left (l.length + sumC cT l) := ⟨_, rfl⟩
  rw [← hr]
  have hr2 : r = cut (left - es.length) (sumC cT l) := by rw [hr, hl1, cut, cut]; congr 1 <;> (try apply propext) <;> omega
  clear hr
  cbv
  repeat' first | with_reducible rfl | with_reducible refine And.intro ?_ ?_ | ((with_reducible intro hcc); first | (cases hcc; done) | skip) | ((with_reducible show goC _ _ _ _ _ _ _ _); cbv) | ((with_reducible show goOps _ _ _ _ _); cbv) | ((with_reducible show okWr _ _ = _); rfl) | ((with_reducible refine hA.fin_pl _ _ _ ?_); cbv) | ((with_reducible refine hA.len _ _ _ _ _ fun z hz hb => ?_); cbv) | ((with_reducible refine hA.off _ _ _ _ fun b hb => ?_); cbv) | ((with_reducible refine hA.sapp _ _ _ ⟨?_, fun sl hsl => ?_⟩); rotate_left; cbv) | (simp only [hA.natLit, hA.natOf, hA.natCast]; cbv)
  all_goals try simp only [hA.add, hA.sub, hA.mul, hA.neg, hA.div, hA.mod, hA.mn, hA.mx, hA.eq, hA.lt, hA.le, hA.nat, hA.R, hA.lep, hA.ltp, hA.seq, inR, n_cast, Int.ofNat_eq_natCast, Option.getD_some, Option.getD_none] at *
  all_goals try (first | omega | (have := hb trivial trivial trivial; omega) | (have : r = -1 := (by simp only [decide_eq_true_eq] at *; have := hsn l; rw [hr2]; unfold cut; split <;> omega); rw [this]; done))
  · refine hA.loopI (fun n s => ∃ (i lf : Int), 0 ≤ i ∧ n + i = es.length ∧ 0 ≤ lf ∧ lf ≤ 1048576 ∧ r = cut lf (sumC cT (l.drop i.toNat)) ∧
        s = ⟨[(5, .int i), (0, .e (.sl es)), (1, .int lf), (4, .int 0)], []⟩) es.length _
      (Weak.keep (env' := [(5, .int 0), (0, .e (.sl es)), (1, .int (left - z)), (4, .int 0)]) ⟨rfl, rfl, rfl, rfl, trivial⟩) ⟨0, left - z, by omega, by omega, by simp only [decide_eq_false_iff_not] at *; omega, by omega, (by rw [hr2, hz]; rfl), rfl⟩ ?_
    rintro n s K ⟨i, lf, h0, h1, h2, h3, h4, rfl⟩ hK
    clear hr2
    by_cases hin : (0 : Int) ≤ i ∧ i < es.length
    · obtain ⟨⟨n1, c1, rs1⟩, e1, q1⟩ := row_at he hin
      obtain ⟨x1, hx1⟩ : ∃ x, x = rs1.map rsr := ⟨_, rfl⟩
      have e1 : es.getD i.toNat [] = [E.str n1, E.int c1, E.sl x1] := e1.trans (by rw [hx1])
      rw [sumC_drop q1] at h4
      obtain ⟨S, hS⟩ : ∃ S, S = sumC cT (l.drop (i.toNat + 1)) := ⟨_, rfl⟩
      have hS0 : 0 ≤ S := hS ▸ hsn _
      obtain ⟨c, hcost⟩ : ∃ c, c = cT (n1, c1, rs1) := ⟨_, rfl⟩
      have hc0 : 0 ≤ c := hcost ▸ cT_nonneg _
      have hc := ok127 n1 c1 rs1 x1 hx1 lf ⟨h2, h3⟩
      rw [← hS, ← hcost] at h4
      rw [← hcost] at hc
      obtain ⟨u, hu⟩ : ∃ u, u = cut lf c := ⟨_, rfl⟩
      rw [← hu] at hc
      have e8 : (i + 1).toNat = i.toNat + 1 := by omega
      have g1 : u < 0 → r = -1 := fun a => by rw [h4]; unfold cut at hu ⊢; split at hu <;> split <;> omega
      have g2 : 0 ≤ u → r = cut u S ∧ u ≤ lf := fun a => by
        have hu2 : u = lf - c := by rw [hu] at a ⊢; unfold cut at a ⊢; split at a <;> split <;> omega
        refine ⟨?_, by omega⟩
        rw [h4, hu2]
        unfold cut
        rw [show lf - (c + S) = lf - c - S by omega]
      clear h4 hu hcost
      cbv
      repeat' first | with_reducible rfl | with_reducible refine And.intro ?_ ?_ | ((with_reducible intro hcc); first | (cases hcc; done) | skip) | ((with_reducible show goC _ _ _ _ _ _ _ _); cbv) | ((with_reducible show goOps _ _ _ _ _); cbv) | ((with_reducible show okWr _ _ = _); rfl) | ((with_reducible refine callK_eq hA hP ?_ ?_ ?_ (Wks.refl _) (fun _ _ => hc)); exact rfl; exact rfl; cbv) | ((with_reducible refine hA.row es _ _ ⟨hin, fun row hrow => ?_⟩); rw [e1] at hrow; subst hrow; cbv) | ((with_reducible refine hA.fin_pl _ _ _ ?_); cbv) | ((with_reducible refine hA.len _ _ _ _ _ fun z hz hb => ?_); cbv) | ((with_reducible refine hA.off _ _ _ _ fun b hb => ?_); cbv) | ((with_reducible refine hA.sapp _ _ _ ⟨?_, fun sl hsl => ?_⟩); rotate_left; cbv) | (simp only [hA.natLit, hA.natOf, hA.natCast]; cbv)
      all_goals try simp only [hA.add, hA.sub, hA.mul, hA.neg, hA.div, hA.mod, hA.mn, hA.mx, hA.eq, hA.lt, hA.le, hA.nat, hA.R, hA.lep, hA.ltp, hA.seq, inR, n_cast, Int.ofNat_eq_natCast, Option.getD_some, Option.getD_none] at *
      all_goals first
        | omega
        | (clear hK g1 g2 he; simp at *; omega)
        | (rw [g1 (by clear hK g2; simp at *; omega)]; done)
        | (have hu0 : 0 ≤ u := (by clear hK; simp at *; omega)
           exact hK _ (n - 1) _ (by omega) (Weak.keep (env' := [(5, .int (i + 1)), (0, .e (.sl es)), (1, .int u), (4, .int 0)]) ⟨rfl, rfl, rfl, rfl, trivial⟩) ⟨i + 1, u, by omega, by omega, hu0, by have := (g2 hu0).2; omega, by rw [e8, ← hS]; exact (g2 hu0).1, rfl⟩)
        | (clear hK g1 g2 he; simp at *; omega)
        | (trace_state; fail)
    · have hd : l.drop i.toNat = [] := by rw [List.drop_eq_nil_iff]; omega
      rw [hd] at h4
      have h5 : r = lf := by rw [h4, sumC, cut, if_neg (by omega)]; omega
      clear h4 hK
      cbv
      repeat' first | with_reducible rfl | with_reducible refine And.intro ?_ ?_ | ((with_reducible intro hcc); first | (cases hcc; done) | skip) | ((with_reducible show goC _ _ _ _ _ _ _ _); cbv) | ((with_reducible show goOps _ _ _ _ _); cbv) | ((with_reducible show okWr _ _ = _); rfl) | (exfalso; simp only [hA.lt, hA.sub, decide_eq_true_eq, decide_eq_false_iff_not, n_cast] at *; omega) | ((with_reducible refine hA.fin_pl _ _ _ ?_); cbv) | ((with_reducible refine hA.len _ _ _ _ _ fun z hz hb => ?_); cbv) | ((with_reducible refine hA.off _ _ _ _ fun b hb => ?_); cbv) | ((with_reducible refine hA.sapp _ _ _ ⟨?_, fun sl hsl => ?_⟩); rotate_left; cbv) | (simp only [hA.natLit, hA.natOf, hA.natCast]; cbv)
      all_goals try simp only [hA.add, hA.sub, hA.mul, hA.neg, hA.div, hA.mod, hA.mn, hA.mx, hA.eq, hA.lt, hA.le, hA.nat, hA.R, hA.lep, hA.ltp, hA.seq, inR, n_cast, Int.ofNat_eq_natCast, Option.getD_some, Option.getD_none] at *
      all_goals first
        | (rw [h5])
        | omega
        | (clear he; simp at *; omega)
        | (trace_state; fail))
theorem ok28 (ts : List Tb) (x : List (List E)) (hx : x = ts.map tbr) (left : Int) (h : 0 ≤ left ∧ left ≤ 1048576) : Plain Try.prog 28 [.agg [.e (.sl x)], .int left] (.int (cut left (cTS ts))) := okOf mixed p28 fun A P hA hP => (by
  have h65 : Plain Try.prog 72 [.e (.sl x), .int left] (.int (cut left (cTS ts))) := ok72 ts _ hx left h
  obtain ⟨u, hu⟩ : ∃ u, u = cut left (cTS ts) := ⟨_, rfl⟩
  rw [← hu] at h65 ⊢
  have hu2 : u < 0 → u = -1 := fun a => by rw [hu, cut] at a ⊢; split at a <;> split <;> omega
  clear hu
  cbv
  repeat' first | with_reducible rfl | with_reducible refine And.intro ?_ ?_ | ((with_reducible intro hcc); first | (cases hcc; done) | skip) | ((with_reducible show goC _ _ _ _ _ _ _ _); cbv) | ((with_reducible show goOps _ _ _ _ _); cbv) | ((with_reducible show okWr _ _ = _); rfl) | ((with_reducible refine callK_eq hA hP ?_ ?_ ?_ (Wks.refl _) (fun _ _ => h65)); exact rfl; exact rfl; cbv) | ((with_reducible refine hA.fin_pl _ _ _ ?_); cbv) | (simp only [hA.natLit, hA.natOf, hA.natCast]; cbv)
  all_goals try simp only [hA.add, hA.sub, hA.mul, hA.neg, hA.div, hA.mod, hA.mn, hA.mx, hA.eq, hA.lt, hA.le, hA.nat, hA.R, hA.lep, hA.ltp, hA.seq, inR, n_cast, Int.ofNat_eq_natCast, Option.getD_some, Option.getD_none] at *
  all_goals first | rfl | omega | (rw [hu2 (by simp at *; omega)]) | (trace_state; fail))
set_option maxRecDepth 100000 in
theorem ok134 (n1 : List UInt8) (c1 : Int) (rs : List (List (Bool × Int))) (x : List (List E)) (hx : x = rs.map rsr) (h1 : rs.length ≤ 1048576) (h2 : ∀ r ∈ rs, r.length ≤ 1048576) : Plain Try.prog 134 [.agg [.str n1, .int c1, .e (.sl x)]] (.agg [.str n1, .int c1, .e (.sl x)]) := okOf mixed p134 fun A P hA hP => (by
  have h48 := ok18 rs x hx (by rw [hx, List.length_map]; exact h1) h2
  cbv
  repeat' first | with_reducible rfl | with_reducible refine And.intro ?_ ?_ | ((with_reducible intro hcc); first | (cases hcc; done) | skip) | ((with_reducible show goC _ _ _ _ _ _ _ _); cbv) | ((with_reducible show goOps _ _ _ _ _); cbv) | ((with_reducible show okWr _ _ = _); rfl) | ((with_reducible refine callK_eq hA hP ?_ ?_ ?_ (Wks.refl _) (fun _ _ => h48)); exact rfl; exact rfl; cbv) | ((with_reducible refine hA.fin_pl _ _ _ ?_); cbv) | ((with_reducible refine hA.st _ _ _ _ _ ⟨?_, fun ds hds => ?_⟩); rotate_left; cbv) | (simp only [hA.natLit, hA.natOf, hA.natCast]; cbv)
  all_goals try simp only [hA.add, hA.sub, hA.mul, hA.neg, hA.div, hA.mod, hA.mn, hA.mx, hA.eq, hA.lt, hA.le, hA.nat, hA.R, hA.lep, hA.ltp, hA.seq, inR, n_cast, Int.ofNat_eq_natCast, Option.getD_some, Option.getD_none] at *
  )
set_option maxRecDepth 100000 in
set_option maxHeartbeats 1000000 in
theorem ok76 (l : List (Tb)) (es : List (List E)) (he : es = l.map tbr) (hlen : es.length ≤ 1048576) (hb2 : ∀ t ∈ l, t.2.2.length ≤ 1048576 ∧ ∀ r ∈ t.2.2, r.length ≤ 1048576) : Plain Try.prog 76 [.e (.sl es)] (.e (.sl es)) := okOf mixed p76 fun A P hA hP => (by
  have hl1 : es.length = l.length := by rw [he]; simp
  have hes : ∀ e ∈ es, e.length = 3 := by
    rw [he]
    intro e h
    obtain ⟨p, _, rfl⟩ := List.mem_map.1 h
    rfl
  cbv
  repeat' first | with_reducible rfl | with_reducible refine And.intro ?_ ?_ | ((with_reducible intro hcc); first | (cases hcc; done) | skip) | ((with_reducible show goC _ _ _ _ _ _ _ _); cbv) | ((with_reducible show goOps _ _ _ _ _); cbv) | ((with_reducible show okWr _ _ = _); rfl) | ((with_reducible refine hA.fin_pl _ _ _ ?_); cbv) | ((with_reducible refine hA.len _ _ _ _ _ fun z hz hb => ?_); cbv) | ((with_reducible refine hA.off _ _ _ _ fun b hb => ?_); cbv) | ((with_reducible refine hA.rep _ _ _ fun ds m hds hm => ?_); cbv) | ((with_reducible refine hA.st _ _ _ _ _ ⟨?_, fun ds hds => ?_⟩); rotate_left; cbv) | ((with_reducible refine hA.alt _ _ (Or.inl ?_)); cbv) | ((with_reducible refine hA.sapp _ _ _ ⟨?_, fun sl hsl => ?_⟩); rotate_left; cbv) | (simp only [hA.natLit, hA.natOf, hA.natCast]; cbv)
  all_goals try simp only [hA.add, hA.sub, hA.mul, hA.neg, hA.div, hA.mod, hA.mn, hA.mx, hA.eq, hA.lt, hA.le, hA.nat, hA.R, hA.lep, hA.ltp, hA.seq, inR, n_cast, Int.ofNat_eq_natCast, Option.getD_some, Option.getD_none] at *
  · omega
  · omega
  · refine hA.loopI (fun n s => ∃ (i : Int) (xs : List (List E)), 0 ≤ i ∧ n + i = es.length ∧ xs.length = es.length ∧ (∀ e ∈ xs, e.length = 3) ∧ (∀ j : Nat, j < i → xs[j]? = es[j]?) ∧
        s = ⟨[(4, .int i), (3, .bs 0 0 m 3), (2, .zs), (0, .e (.sl es))], [.box (xs.flatten.map .e)]⟩) es.length _
      (Weak.keep (env' := [(4, .int 0), (3, .bs 0 0 m 3), (2, .zs), (0, .e (.sl es))]) ⟨rfl, rfl, rfl, rfl, trivial⟩)
      ⟨0, List.replicate m [E.str [], E.int 0, E.sl []], by omega, by omega, by simp; omega, by simp, fun j hj => by omega, by rw [← buf_zero, hm]; rw [hds]; rfl⟩ ?_
    rintro n s K ⟨i, xs, h0, h1, h2, h3, h4, rfl⟩ hK
    obtain ⟨ys, hys⟩ : ∃ ys, ys = xs.flatten.map D.e := ⟨_, rfl⟩
    have hyl : ys.length = xs.length * 3 := by rw [hys, List.length_map, flatten_len h3]
    rw [← hys]
    by_cases hin : (0 : Int) ≤ i ∧ i < es.length
    · obtain ⟨⟨n1, c1, rs1⟩, e1, q1⟩ := row_at he hin
      obtain ⟨x1, hx1⟩ : ∃ x, x = rs1.map rsr := ⟨_, rfl⟩
      have e1 : es.getD i.toNat [] = [E.str n1, E.int c1, E.sl x1] := e1.trans (by rw [hx1])
      have hc := ok134 n1 c1 rs1 x1 hx1 (hb2 _ (List.mem_of_getElem? q1)).1 (hb2 _ (List.mem_of_getElem? q1)).2
      have hrow0 : es[i.toNat]? = some (es.getD i.toNat []) := by
        have : i.toNat < es.length := by omega
        simp [List.getD, this]
      have hrl : (es.getD i.toNat []).length = 3 := hes _ (List.mem_of_getElem? hrow0)
      cbv
      repeat' first | with_reducible rfl | with_reducible refine And.intro ?_ ?_ | ((with_reducible intro hcc); first | (cases hcc; done) | skip) | ((with_reducible show goC _ _ _ _ _ _ _ _); cbv) | ((with_reducible show goOps _ _ _ _ _); cbv) | ((with_reducible show okWr _ _ = _); rfl) | ((with_reducible refine callK_eq hA hP ?_ ?_ ?_ (Wks.refl _) (fun _ _ => hc)); exact rfl; exact rfl; cbv) | ((with_reducible refine hA.row es _ _ ⟨hin, fun row hrow => ?_⟩); rw [e1] at hrow; subst hrow; cbv) | ((with_reducible refine hA.fin_pl _ _ _ ?_); cbv) | ((with_reducible refine hA.len _ _ _ _ _ fun z hz hb => ?_); cbv) | ((with_reducible refine hA.off _ _ _ _ fun b hb => ?_); cbv) | ((with_reducible refine hA.rep _ _ _ fun ds m hds hm => ?_); cbv) | ((with_reducible refine hA.st _ _ _ _ _ ⟨?_, fun ds hds => ?_⟩); rotate_left; cbv) | ((with_reducible refine hA.alt _ _ (Or.inl ?_)); cbv) | ((with_reducible refine hA.sapp _ _ _ ⟨?_, fun sl hsl => ?_⟩); rotate_left; cbv) | (simp only [hA.natLit, hA.natOf, hA.natCast]; cbv)
      all_goals try simp only [hA.add, hA.sub, hA.mul, hA.neg, hA.div, hA.mod, hA.mn, hA.mx, hA.eq, hA.lt, hA.le, hA.nat, hA.R, hA.lep, hA.ltp, hA.seq, inR, n_cast, Int.ofNat_eq_natCast, Option.getD_some, Option.getD_none] at *
      all_goals first
        | (show _ < (m : Int); omega)
        | omega
        | (clear hK h4 he; grind; done)
        | (have hb' : b = i.toNat * 3 := by omega
           refine hK _ (n - 1) _ (by omega) (Weak.keep (env' := [(4, .int (i + 1)), (3, .bs 0 0 m 3), (2, .zs), (0, .e (.sl es))]) ⟨rfl, rfl, rfl, rfl, trivial⟩)
             ⟨i + 1, xs.set i.toNat (es.getD i.toNat []), by omega, by omega, by simp [h2], fun e h => ?_, fun j hj => ?_, ?_⟩
           · rcases List.mem_or_eq_of_mem_set h with h | rfl
             · exact h3 e h
             · exact hrl
           · by_cases hji : (j : Int) < i
             · rw [List.getElem?_set_ne (show i.toNat ≠ j by omega)]; exact h4 j hji
             · have : j = i.toNat := by omega
               subst this
               rw [List.getElem?_set_self (show i.toNat < xs.length by omega), hrow0]
           · congr 2
             rw [hds, hys, hb']
             congr 1
             have q := buf_set (k := 3) (by omega) h3 (i := i.toNat) (show i.toNat < xs.length by omega) hrl
             rw [e1] at q ⊢
             exact q)
    · have hxe : xs = es := by
        refine List.ext_getElem? fun j => ?_
        by_cases hj : (j : Int) < i
        · exact h4 j hj
        · rw [List.getElem?_eq_none (by omega), List.getElem?_eq_none (by omega)]
      cbv
      repeat' first | with_reducible rfl | with_reducible refine And.intro ?_ ?_ | ((with_reducible intro hcc); first | (cases hcc; done) | skip) | ((with_reducible show goC _ _ _ _ _ _ _ _); cbv) | ((with_reducible show goOps _ _ _ _ _); cbv) | ((with_reducible show okWr _ _ = _); rfl) | (exfalso; simp only [hA.lt, hA.sub, decide_eq_true_eq, decide_eq_false_iff_not, n_cast] at *; omega) | ((with_reducible refine hA.fin_bs (es := es) ?_ ?_ hes)) | ((with_reducible refine hA.fin_pl _ _ _ ?_); cbv) | ((with_reducible refine hA.len _ _ _ _ _ fun z hz hb => ?_); cbv) | ((with_reducible refine hA.off _ _ _ _ fun b hb => ?_); cbv) | ((with_reducible refine hA.rep _ _ _ fun ds m hds hm => ?_); cbv) | ((with_reducible refine hA.st _ _ _ _ _ ⟨?_, fun ds hds => ?_⟩); rotate_left; cbv) | ((with_reducible refine hA.alt _ _ (Or.inl ?_)); cbv) | ((with_reducible refine hA.sapp _ _ _ ⟨?_, fun sl hsl => ?_⟩); rotate_left; cbv) | (simp only [hA.natLit, hA.natOf, hA.natCast]; cbv)
      all_goals try simp only [hA.add, hA.sub, hA.mul, hA.neg, hA.div, hA.mod, hA.mn, hA.mx, hA.eq, hA.lt, hA.le, hA.nat, hA.R, hA.lep, hA.ltp, hA.seq, inR, n_cast, Int.ofNat_eq_natCast, Option.getD_some, Option.getD_none] at *
      all_goals first
        | (rw [hys, hxe]; rfl)
        | omega
        | (clear hK h4 he; grind; done)
        | (trace_state; fail))
theorem ok31 (ts : List Tb) (x : List (List E)) (hx : x = ts.map tbr) (h1 : ts.length ≤ 1048576) (h2 : ∀ t ∈ ts, t.2.2.length ≤ 1048576 ∧ ∀ r ∈ t.2.2, r.length ≤ 1048576) : Plain Try.prog 31 [.agg [.e (.sl x)]] (.agg [.e (.sl x)]) := okOf mixed p31 fun A P hA hP => (by
  have h68 := ok76 ts x hx (by rw [hx, List.length_map]; exact h1) h2
  cbv
  repeat' first | with_reducible rfl | with_reducible refine And.intro ?_ ?_ | ((with_reducible intro hcc); first | (cases hcc; done) | skip) | ((with_reducible show goC _ _ _ _ _ _ _ _); cbv) | ((with_reducible show goOps _ _ _ _ _); cbv) | ((with_reducible show okWr _ _ = _); rfl) | ((with_reducible refine callK_eq hA hP ?_ ?_ ?_ (Wks.refl _) (fun _ _ => h68)); exact rfl; exact rfl; cbv) | ((with_reducible refine hA.fin_pl _ _ _ ?_); cbv) | ((with_reducible refine hA.st _ _ _ _ _ ⟨?_, fun ds hds => ?_⟩); rotate_left; cbv) | (simp only [hA.natLit, hA.natOf, hA.natCast]; cbv)
  all_goals try simp only [hA.add, hA.sub, hA.mul, hA.neg, hA.div, hA.mod, hA.mn, hA.mx, hA.eq, hA.lt, hA.le, hA.nat, hA.R, hA.lep, hA.ltp, hA.seq, inR, n_cast, Int.ofNat_eq_natCast, Option.getD_some, Option.getD_none] at *
  )
set_option maxRecDepth 100000 in
theorem ok139 (n1 : List UInt8) (c1 : Int) (rs : List (List (Bool × Int))) (x : List (List E)) (hx : x = rs.map rsr) (n2 : List UInt8) (c2 : Int) (rs' : List (List (Bool × Int))) (x' : List (List E)) (hx' : x' = rs'.map rsr) :
    Plain Try.prog 139 [.agg [.str n1, .int c1, .e (.sl x)], .agg [.str n2, .int c2, .e (.sl x')]] (.bool (decide ((n1, c1, rs) = (n2, c2, rs')))) := okOf mixed p139 fun A P hA hP => (by
  have h49 := ok19 rs rs' x x' hx hx'
  obtain ⟨c, hc⟩ : ∃ c, c = decide (rs = rs') := ⟨_, rfl⟩
  rw [← hc] at h49
  obtain ⟨r, hr⟩ : ∃ r, r = decide ((n1, c1, rs) = (n2, c2, rs')) := ⟨_, rfl⟩
  rw [← hr]
  have hr2 : r = (decide (n1 = n2) && decide (c1 = c2) && c) := by rw [hr, hc]; by_cases a : n1 = n2 <;> by_cases b : c1 = c2 <;> simp [a, b]
  clear hr hc
  cbv
  repeat' first | with_reducible rfl | with_reducible refine And.intro ?_ ?_ | ((with_reducible intro hcc); first | (cases hcc; done) | skip) | ((with_reducible show goC _ _ _ _ _ _ _ _); cbv) | ((with_reducible show goOps _ _ _ _ _); cbv) | ((with_reducible show okWr _ _ = _); rfl) | ((with_reducible refine callK_eq hA hP ?_ ?_ ?_ (Wks.refl _) (fun _ _ => h49)); exact rfl; exact rfl; cbv) | ((with_reducible refine hA.fin_pl _ _ _ ?_); cbv) | (simp only [hA.natLit, hA.natOf, hA.natCast]; cbv)
  all_goals try simp only [hA.add, hA.sub, hA.mul, hA.neg, hA.div, hA.mod, hA.mn, hA.mx, hA.eq, hA.lt, hA.le, hA.nat, hA.R, hA.lep, hA.ltp, hA.seq, inR, n_cast, Int.ofNat_eq_natCast, Option.getD_some, Option.getD_none] at *
  all_goals first | rfl | (clear h49; grind; done) | (clear h49; simp at *; grind; done) | (trace_state; fail))
set_option maxRecDepth 100000 in
theorem ok79 (l l' : List (Tb)) (es fs : List (List E)) (he : es = l.map tbr) (hf : fs = l'.map tbr) : Plain Try.prog 79 [.e (.sl es), .e (.sl fs)] (.bool (decide (l = l'))) := okOf mixed p79 fun A P hA hP => (by
  obtain ⟨r, hr⟩ : ∃ r : Bool, r = decide (l = l') := ⟨_, rfl⟩
  rw [← hr]
  have hl1 : es.length = l.length := by rw [he]; simp
  have hl2 : fs.length = l'.length := by rw [hf]; simp
  cbv
  repeat' first | with_reducible rfl | with_reducible refine And.intro ?_ ?_ | ((with_reducible intro hcc); first | (cases hcc; done) | skip) | ((with_reducible show goC _ _ _ _ _ _ _ _); cbv) | ((with_reducible show goOps _ _ _ _ _); cbv) | ((with_reducible show okWr _ _ = _); rfl) | ((with_reducible refine hA.fin_pl _ _ _ ?_); cbv) | ((with_reducible refine hA.len _ _ _ _ _ fun z hz hb => ?_); cbv) | ((with_reducible refine hA.off _ _ _ _ fun b hb => ?_); cbv) | ((with_reducible refine hA.sapp _ _ _ ⟨?_, fun sl hsl => ?_⟩); rotate_left; cbv) | (simp only [hA.natLit, hA.natOf, hA.natCast]; cbv)
  all_goals try simp only [hA.add, hA.sub, hA.mul, hA.neg, hA.div, hA.mod, hA.mn, hA.mx, hA.eq, hA.lt, hA.le, hA.nat, hA.R, hA.lep, hA.ltp, hA.seq, inR, n_cast, Int.ofNat_eq_natCast, Option.getD_some, Option.getD_none] at *
  · have : l ≠ l' := fun e => by subst e; clear hr; grind
    rw [hr]; simp [this]
  · have hzz : es.length = fs.length := by clear hr; grind
    refine hA.loopI (fun n s => ∃ i : Int, 0 ≤ i ∧ n + i = l.length ∧ (∀ j : Nat, j < i → l[j]? = l'[j]?) ∧ s = ⟨[(5, .int i), (4, .bool false), (0, .e (.sl es)), (1, .e (.sl fs))], []⟩) l.length _ (Weak.keep (env' := [(5, .int 0), (4, .bool false), (0, .e (.sl es)), (1, .e (.sl fs))]) ⟨rfl, rfl, rfl, rfl, trivial⟩) ⟨0, by omega, by omega, fun j hj => by omega, rfl⟩ ?_
    rintro n s K ⟨i, h0, h1, h2, rfl⟩ hK
    by_cases hin : (0 : Int) ≤ i ∧ i < es.length
    · have hin2 : (0 : Int) ≤ i ∧ i < fs.length := by omega
      obtain ⟨⟨n1, c1, rs1⟩, e1, q1⟩ := row_at he hin
      obtain ⟨⟨n2, c2, rs2⟩, e2, q2⟩ := row_at hf hin2
      obtain ⟨x1, hx1⟩ : ∃ x, x = rs1.map rsr := ⟨_, rfl⟩
      have e1 : es.getD i.toNat [] = [E.str n1, E.int c1, E.sl x1] := e1.trans (by rw [hx1])
      obtain ⟨x2, hx2⟩ : ∃ x, x = rs2.map rsr := ⟨_, rfl⟩
      have e2 : fs.getD i.toNat [] = [E.str n2, E.int c2, E.sl x2] := e2.trans (by rw [hx2])
      have hc := ok139 n1 c1 rs1 x1 hx1 n2 c2 rs2 x2 hx2
      obtain ⟨c, hcc⟩ : ∃ c : Bool, c = decide (((n1, c1, rs1) : Tb) = (n2, c2, rs2)) := ⟨_, rfl⟩
      rw [← hcc] at hc
      have c1 : c = false → r = false := fun e => by
        rw [hr, decide_eq_false_iff_not]
        intro e'
        subst e'
        rw [q1] at q2
        cases q2
        rw [e] at hcc
        simp at hcc
      have c2 : c = true → l[i.toNat]? = l'[i.toNat]? := fun e => by
        rw [e] at hcc
        rw [q1, q2, of_decide_eq_true hcc.symm]
      clear hcc hr
      cbv
      repeat' first | with_reducible rfl | with_reducible refine And.intro ?_ ?_ | ((with_reducible intro hcc); first | (cases hcc; done) | skip) | ((with_reducible show goC _ _ _ _ _ _ _ _); cbv) | ((with_reducible show goOps _ _ _ _ _); cbv) | ((with_reducible show okWr _ _ = _); rfl) | ((with_reducible refine callK_eq hA hP ?_ ?_ ?_ (Wks.refl _) (fun _ _ => hc)); exact rfl; exact rfl; cbv) | ((with_reducible refine hA.row es _ _ ⟨hin, fun row hrow => ?_⟩); rw [e1] at hrow; subst hrow; cbv) | ((with_reducible refine hA.row fs _ _ ⟨hin2, fun row hrow => ?_⟩); rw [e2] at hrow; subst hrow; cbv) | ((with_reducible refine hA.fin_pl _ _ _ ?_); cbv) | ((with_reducible refine hA.len _ _ _ _ _ fun z hz hb => ?_); cbv) | ((with_reducible refine hA.off _ _ _ _ fun b hb => ?_); cbv) | ((with_reducible refine hA.sapp _ _ _ ⟨?_, fun sl hsl => ?_⟩); rotate_left; cbv) | (simp only [hA.natLit, hA.natOf, hA.natCast]; cbv)
      all_goals try simp only [hA.add, hA.sub, hA.mul, hA.neg, hA.div, hA.mod, hA.mn, hA.mx, hA.eq, hA.lt, hA.le, hA.nat, hA.R, hA.lep, hA.ltp, hA.seq, inR, n_cast, Int.ofNat_eq_natCast, Option.getD_some, Option.getD_none] at *
      all_goals first
        | omega
        | (refine hK _ (n - 1) _ (by omega) (Weak.gc (env' := [(5, .int (i + 1)), (4, .bool false), (0, .e (.sl es)), (1, .e (.sl fs))]) ⟨rfl, rfl, rfl, rfl, trivial⟩ rfl) ⟨i + 1, by omega, by omega, fun j hj => ?_, rfl⟩
           by_cases hji : (j : Int) < i
           · exact h2 j hji
           · have : j = i.toNat := by omega
             rw [this]
             exact c2 (by clear hK h2; grind))
        | (clear hK h2 he hf e1 e2; grind; done)
        | (trace_state; fail)
    · have hll : l = l' := by
        refine List.ext_getElem? fun j => ?_
        by_cases hj : (j : Int) < i
        · exact h2 j hj
        · rw [List.getElem?_eq_none (by omega), List.getElem?_eq_none (by omega)]
      have hr2 : r = true := by rw [hr, hll]; simp
      clear hr
      cbv
      repeat' first | with_reducible rfl | with_reducible refine And.intro ?_ ?_ | ((with_reducible intro hcc); first | (cases hcc; done) | skip) | ((with_reducible show goC _ _ _ _ _ _ _ _); cbv) | ((with_reducible show goOps _ _ _ _ _); cbv) | ((with_reducible show okWr _ _ = _); rfl) | (exfalso; simp only [hA.lt, hA.sub, decide_eq_true_eq, decide_eq_false_iff_not, n_cast] at *; omega) | ((with_reducible refine hA.fin_pl _ _ _ ?_); cbv) | ((with_reducible refine hA.len _ _ _ _ _ fun z hz hb => ?_); cbv) | ((with_reducible refine hA.off _ _ _ _ fun b hb => ?_); cbv) | ((with_reducible refine hA.sapp _ _ _ ⟨?_, fun sl hsl => ?_⟩); rotate_left; cbv) | (simp only [hA.natLit, hA.natOf, hA.natCast]; cbv)
      all_goals try simp only [hA.add, hA.sub, hA.mul, hA.neg, hA.div, hA.mod, hA.mn, hA.mx, hA.eq, hA.lt, hA.le, hA.nat, hA.R, hA.lep, hA.ltp, hA.seq, inR, n_cast, Int.ofNat_eq_natCast, Option.getD_some, Option.getD_none] at *
      all_goals first
        | (rw [hr2])
        | omega
        | (clear hK h2 hll he hf; grind; done)
        | (trace_state; fail))
theorem ok34 (ts ts' : List Tb) (x x' : List (List E)) (hx : x = ts.map tbr) (hx' : x' = ts'.map tbr) : Plain Try.prog 34 [.agg [.e (.sl x)], .agg [.e (.sl x')]] (.bool (decide (ts = ts'))) := okOf mixed p34 fun A P hA hP => (by
  have h70 := ok79 ts ts' x x' hx hx'
  obtain ⟨c, hc⟩ : ∃ c, c = decide (ts = ts') := ⟨_, rfl⟩
  rw [← hc] at h70 ⊢
  cbv
  repeat' first | with_reducible rfl | with_reducible refine And.intro ?_ ?_ | ((with_reducible intro hcc); first | (cases hcc; done) | skip) | ((with_reducible show goC _ _ _ _ _ _ _ _); cbv) | ((with_reducible show goOps _ _ _ _ _); cbv) | ((with_reducible show okWr _ _ = _); rfl) | ((with_reducible refine callK_eq hA hP ?_ ?_ ?_ (Wks.refl _) (fun _ _ => h70)); exact rfl; exact rfl; cbv) | ((with_reducible refine hA.fin_pl _ _ _ ?_); cbv) | (simp only [hA.natLit, hA.natOf, hA.natCast]; cbv)
  all_goals try simp only [hA.add, hA.sub, hA.mul, hA.neg, hA.div, hA.mod, hA.mn, hA.mx, hA.eq, hA.lt, hA.le, hA.nat, hA.R, hA.lep, hA.ltp, hA.seq, inR, n_cast, Int.ofNat_eq_natCast, Option.getD_some, Option.getD_none] at *
  all_goals first | rfl | (clear h70 hc; grind; done) | (trace_state; fail))
end Go.Proofs.Ytfplalbognalkaa.Ab
/- Rows are sorted: the program's function, whole. -/
namespace Go.Proofs.Ytfplalbognalkaa.Ab
open Go
def sortR (rows : List Row) : List Row := srt (rows.map clR)
theorem sortR_len (rows : List Row) : (sortR rows).length = rows.length := by rw [sortR, srt_len, List.length_map]
set_option maxRecDepth 100000 in
set_option maxHeartbeats 1000000 in
theorem ok11 (l : List Row) (es : List (List E)) (he : es = l.map rsr) (hlen : es.length ≤ 1048576) (hr : ∀ r ∈ l, r.length ≤ 1048576) : Plain Try.prog 11 [.e (.sl es)] (.e (.sl ((sortR l).map rsr))) := okOf mixed p11 fun A P hA hP => (by
  have hl1 : es.length = l.length := by rw [he]; simp
  obtain ⟨c, hc⟩ : ∃ c, c = l.map clR := ⟨_, rfl⟩
  have hcl : c.length = es.length := by rw [hc, hl1]; simp
  have hcc0 : ∀ r ∈ c, Cl r := by
    rw [hc]
    intro r h
    obtain ⟨p, _, rfl⟩ := List.mem_map.1 h
    exact clR_cl p
  obtain ⟨ts, hts⟩ : ∃ ts, ts = (sortR l).map rsr := ⟨_, rfl⟩
  have htl : ts.length = es.length := by rw [hts, hl1, List.length_map, sortR_len]
  have htk : ∀ e ∈ ts, e.length = 1 := by
    rw [hts]
    intro e h
    obtain ⟨p, _, rfl⟩ := List.mem_map.1 h
    rfl
  have hfl : dsR (srt c) = ts.flatten.map .e := by
    rw [hts, sortR, ← hc, dsR]
    generalize srt c = x
    induction x with
    | nil => rfl
    | cons a x ih => simp only [List.map_cons, List.flatten_cons, List.cons_append, List.nil_append, ih]
  rw [← hts]
  cbv
  repeat' first | with_reducible rfl | with_reducible refine And.intro ?_ ?_ | ((with_reducible intro hcc); first | (cases hcc; done) | skip) | ((with_reducible show goC _ _ _ _ _ _ _ _); cbv) | ((with_reducible show goOps _ _ _ _ _); cbv) | ((with_reducible show okWr _ _ = _); rfl) | ((with_reducible refine hA.alt _ _ (Or.inr ?_)); cbv) | ((with_reducible refine hA.fin_pl _ _ _ ?_); cbv) | ((with_reducible refine hA.len _ _ _ _ _ fun z hz hb => ?_); cbv) | ((with_reducible refine hA.off _ _ _ _ fun b hb => ?_); cbv) | ((with_reducible refine hA.rep _ _ _ fun ds m hds hm => ?_); cbv) | ((with_reducible refine hA.st _ _ _ _ _ ⟨?_, fun ds hds => ?_⟩); rotate_left; cbv) | ((with_reducible refine hA.alt _ _ (Or.inl ?_)); cbv) | ((with_reducible refine hA.sapp _ _ _ ⟨?_, fun sl hsl => ?_⟩); rotate_left; cbv) | (simp only [hA.natLit, hA.natOf, hA.natCast]; cbv)
  all_goals try simp only [hA.add, hA.sub, hA.mul, hA.neg, hA.div, hA.mod, hA.mn, hA.mx, hA.eq, hA.lt, hA.le, hA.nat, hA.R, hA.lep, hA.ltp, hA.seq, inR, n_cast, Int.ofNat_eq_natCast, Option.getD_some, Option.getD_none] at *
  · omega
  · omega
  · refine hA.loopI (fun n s => ∃ (i : Int) (xs : List Row) (dd : List D), 0 ≤ i ∧ n + i = es.length ∧ xs.length = es.length ∧ (∀ j : Nat, j < i → xs[j]? = c[j]?) ∧ dd = dsR xs ∧
        s = ⟨[(11, .int i), (10, .int z), (9, .e (.sl es)), (3, .vec 0 m 1)], [.vec true 1 dd]⟩) es.length _
      (Weak.keep (env' := [(11, .int 0), (10, .int z), (9, .e (.sl es)), (3, .vec 0 m 1)]) ⟨rfl, rfl, rfl, rfl, trivial⟩)
      ⟨0, List.replicate m [], ds, by omega, by omega, by simp; omega, fun j hj => by omega, ?_, rfl⟩ ?_
    · rw [hds, hm, dsR]
      generalize Int.toNat _ = k
      induction k with
      | zero => rfl
      | succ k ih => rw [List.replicate_succ, List.flatten_cons, ih, List.replicate_succ]; rfl
    rintro n s K ⟨i, xs, ys, h0, h1, h2, h4, hys, rfl⟩ hK
    have hyl : ys.length = xs.length := by rw [hys, dsR_len]
    by_cases hin : (0 : Int) ≤ i ∧ i < es.length
    · obtain ⟨r1, e1, q1⟩ := row_at he hin
      obtain ⟨x1, hx1⟩ : ∃ x, x = r1.map vr := ⟨_, rfl⟩
      have e1 : es.getD i.toNat [] = [E.sl x1] := e1.trans (by rw [hx1])
      obtain ⟨x2, hx2⟩ : ∃ x, x = (clR r1).map vr := ⟨_, rfl⟩
      have h79 : Plain Try.prog 53 [.e (.sl x1)] (.e (.sl x2)) := by
        rw [hx2]
        exact ok53 r1 x1 hx1 (by rw [hx1, List.length_map]; exact hr r1 (List.mem_of_getElem? q1))
      have hcr : c[i.toNat]? = some (clR r1) := by rw [hc, List.getElem?_map, q1]; rfl
      have hrow : D.e (.sl x2) = rowD (clR r1) := by rw [hx2]
      clear hc he hts hfl
      cbv
      repeat' first | with_reducible rfl | with_reducible refine And.intro ?_ ?_ | ((with_reducible intro hcc); first | (cases hcc; done) | skip) | ((with_reducible show goC _ _ _ _ _ _ _ _); cbv) | ((with_reducible show goOps _ _ _ _ _); cbv) | ((with_reducible show okWr _ _ = _); rfl) | ((with_reducible refine callK_eq hA hP ?_ ?_ ?_ (Wks.refl _) (fun _ _ => h79)); exact rfl; exact rfl; cbv) | ((with_reducible refine hA.row es _ _ ⟨hin, fun row hrow => ?_⟩); rw [e1] at hrow; subst hrow; cbv) | ((with_reducible refine hA.fin_pl _ _ _ ?_); cbv) | ((with_reducible refine hA.len _ _ _ _ _ fun z hz hb => ?_); cbv) | ((with_reducible refine hA.off _ _ _ _ fun b hb => ?_); cbv) | ((with_reducible refine hA.rep _ _ _ fun ds m hds hm => ?_); cbv) | ((with_reducible refine hA.st _ _ _ _ _ ⟨?_, fun ds hds => ?_⟩); rotate_left; cbv) | ((with_reducible refine hA.alt _ _ (Or.inl ?_)); cbv) | ((with_reducible refine hA.sapp _ _ _ ⟨?_, fun sl hsl => ?_⟩); rotate_left; cbv) | (simp only [hA.natLit, hA.natOf, hA.natCast]; cbv)
      all_goals try simp only [hA.add, hA.sub, hA.mul, hA.neg, hA.div, hA.mod, hA.mn, hA.mx, hA.eq, hA.lt, hA.le, hA.nat, hA.R, hA.lep, hA.ltp, hA.seq, inR, n_cast, Int.ofNat_eq_natCast, Option.getD_some, Option.getD_none] at *
      all_goals first
        | (show _ < (m : Int); omega)
        | omega
        | (have hb' : b = i.toNat := by omega
           refine hK _ (n - 1) _ (by omega) (Weak.keep (env' := [(11, .int (i + 1)), (10, .int z), (9, .e (.sl es)), (3, .vec 0 m 1)]) ⟨rfl, rfl, rfl, rfl, trivial⟩)
             ⟨i + 1, xs.set i.toNat (clR r1), _, by omega, by omega, by simp [h2], fun j hj => ?_, dsR_set hys (by omega) (by rw [show [rowD (clR r1)] = [D.e (E.sl x2)] from by rw [hx2], ← hb']; assumption), rfl⟩
           by_cases hji : (j : Int) < i
           · rw [List.getElem?_set_ne (show i.toNat ≠ j by omega)]; exact h4 j hji
           · have : j = i.toNat := by omega
             subst this
             rw [List.getElem?_set_self (show i.toNat < xs.length by omega), hcr])
        | (clear hK h4; simp at *; omega)
        | (trace_state; fail)
    · have hxe : xs = c := by
        refine List.ext_getElem? fun j => ?_
        by_cases hj : (j : Int) < i
        · exact h4 j hj
        · rw [List.getElem?_eq_none (by omega), List.getElem?_eq_none (by omega)]
      subst hxe
      obtain ⟨dsF, hdsF⟩ : ∃ ds, ds = dsR (srt xs) := ⟨_, rfl⟩
      obtain ⟨b0, hb0⟩ : ∃ b, b = decide (0 < m) := ⟨_, rfl⟩
      have h80 : Proc Try.prog 54 (fun t => [.vec (t 0) m 1, cmpD]) (fun _ => [.vec true 1 ys]) (fun t => .vec (t 1) m 1) (fun _ => [.vec true 1 ys, .vec b0 1 dsF]) := by
        have := ok54 xs hcc0 (by omega)
        rw [NewR, srt_len, show xs.length = m by omega, ← hys, ← hdsF, ← hb0] at this
        exact this
      have hdf : dsF.take (m * 1) = ts.flatten.map .e := by
        rw [← hfl, hdsF]
        exact List.take_of_length_le (by rw [dsR_len, srt_len]; omega)
      clear hK h4 he hts hfl hc
      cbv
      repeat' first | with_reducible rfl | with_reducible refine And.intro ?_ ?_ | ((with_reducible intro hcc); first | (cases hcc; done) | skip) | ((with_reducible show goC _ _ _ _ _ _ _ _); cbv) | ((with_reducible show goOps _ _ _ _ _); cbv) | ((with_reducible show okWr _ _ = _); rfl) | (exfalso; simp only [hA.lt, hA.sub, decide_eq_true_eq, decide_eq_false_iff_not, n_cast] at *; omega) | ((with_reducible show A.call _ _ _ _ _ 54 _ _ _); have hc := h80; refine callK_pr hA hP [0] (by rfl) (by exact ⟨rfl, trivial⟩) (Wks.refl _) ?_ (fun _ _ => hc) hc.side; cbv) | ((with_reducible refine hA.fin_vec (b := b0) (ds := dsF) (es := ts) ?_ ?_ ?_ htk)) | ((with_reducible refine hA.fin_pl _ _ _ ?_); cbv) | ((with_reducible refine hA.len _ _ _ _ _ fun z hz hb => ?_); cbv) | ((with_reducible refine hA.off _ _ _ _ fun b hb => ?_); cbv) | ((with_reducible refine hA.rep _ _ _ fun ds m hds hm => ?_); cbv) | ((with_reducible refine hA.st _ _ _ _ _ ⟨?_, fun ds hds => ?_⟩); rotate_left; cbv) | ((with_reducible refine hA.alt _ _ (Or.inl ?_)); cbv) | ((with_reducible refine hA.sapp _ _ _ ⟨?_, fun sl hsl => ?_⟩); rotate_left; cbv) | (simp only [hA.natLit, hA.natOf, hA.natCast]; cbv)
      all_goals try simp only [hA.add, hA.sub, hA.mul, hA.neg, hA.div, hA.mod, hA.mn, hA.mx, hA.eq, hA.lt, hA.le, hA.nat, hA.R, hA.lep, hA.ltp, hA.seq, inR, n_cast, Int.ofNat_eq_natCast, Option.getD_some, Option.getD_none] at *
      all_goals first
        | exact hdf
        | rfl
        | omega
        | (trace_state; fail))
end Go.Proofs.Ytfplalbognalkaa.Ab
/- Draws: the reader, Vals. -/
namespace Go.Proofs.Ytfplalbognalkaa.Ab
open Go
/-- The reader's memory. -/
abbrev rd (es : List (List E)) (p : Int) : O := .box [.e (.sl es), .int p]
structure RdOk (es : List (List E)) (p : Int) : Prop where
  bs : ∃ l : List UInt8, es = bytesE l
  le : es.length ≤ 1500
  p0 : 0 ≤ p
  p1 : p ≤ 2000
theorem RdOk.at {es : List (List E)} {p q : Int} (h : RdOk es p) (h0 : 0 ≤ q) (h1 : q ≤ 2000) : RdOk es q := ⟨h.bs, h.le, h0, h1⟩
/-- A function that is handed the reader first. -/
abbrev Rdr (fn : FuncId) (args : List D) (es : List (List E)) (p : Int) (d : D) (q : Int) : Prop := Proc Try.prog fn (fun t => .ref (t 0) 0 :: args) (fun _ => [rd es p]) (fun _ => d) (fun _ => [rd es q])
/-- What is free of numbers. -/
def D.nn (d : D) : Prop := (∀ t, d.ren t = d) ∧ ∀ m, d.lt m = true
theorem rdr_side {args : List D} {es : List (List E)} {p q : Int} {d : D} (ha : ∀ t, rens t args = args) (hl : ∀ m, lts m args = true) (hd : ∀ t, d.ren t = d) : Side (fun t => .ref (t 0) 0 :: args) (fun _ => [rd es p]) (fun _ => d) (fun _ => [rd es q]) :=
  ⟨fun t => by simp [rens, D.ren, ha], by simp [lts, D.lt, hl], fun t => rfl, by intro o ho; simp at ho; subst ho; rfl, fun t => (hd t).symm, fun t => rfl, by simp⟩
theorem rdr_fin {A : Ar} (hA : A.Ok) {es : List (List E)} {p q : Int} {d d' : D} {l' : List O} (h0 : hpF l' 0 = rd es q) (h1 : d = d' ∨ d = d'.pl) (hd : ∀ t, d.ren t = d) (hl : ∀ m, d.lt m = true) : A.finv [rd es p] l' d' [rd es q] d :=
  hA.finv _ _ _ _ _ (FinV.ren [0] (fun _ => [rd es q]) (fun _ => d) rfl h1 ⟨h0, trivial⟩ (fun t => (hd t).symm) (hl _) (fun t => rfl) (by intro o ho; simp at ho; subst ho; rfl))
theorem byte_at {es : List (List E)} (hb : ∃ l : List UInt8, es = bytesE l) {n : Int} (h : 0 ≤ n ∧ n < es.length) : ∃ b : Int, es.getD n.toNat [] = [.v (.int .u8 b)] ∧ 0 ≤ b ∧ b ≤ 255 := by
  obtain ⟨l, rfl⟩ := hb
  have hn : n.toNat < l.length := by simp [bytesE] at h; omega
  refine ⟨(l[n.toNat]).toNat, by simp [List.getD, bytesE, hn], by omega, ?_⟩
  have := UInt8.toNat_lt (l[n.toNat])
  omega
set_option maxRecDepth 100000 in
theorem ok48b {es : List (List E)} {p : Int} (h : RdOk es p) : ∃ x : Int × Int, (((0 ≤ x.1 ∧ x.1 ≤ 255) ∧ RdOk es x.2) ∧ (p ≤ es.length → x.2 ≤ es.length)) ∧ Rdr 48 [] es p (.int x.1) x.2 := by
  obtain ⟨hb, hl, p0, p1⟩ := h
  have h := RdOk.mk hb hl p0 p1
  by_cases hin : 0 ≤ p ∧ p < es.length
  · obtain ⟨b, e1, b0, b1⟩ := byte_at hb hin
    refine ⟨(b, p + 1), ⟨⟨⟨b0, b1⟩, h.at (by omega) (by omega)⟩, fun _ => by show p + 1 ≤ _; omega⟩, procOf mixed p48 (rdr_side (fun _ => rfl) (fun _ => rfl) fun _ => rfl) fun A P hA hP => ?_⟩
    cbv
    repeat' first | with_reducible rfl | with_reducible refine And.intro ?_ ?_ | ((with_reducible intro hcc); first | (cases hcc; done) | skip) | ((with_reducible show goC _ _ _ _ _ _ _ _); cbv) | ((with_reducible show goOps _ _ _ _ _); cbv) | ((with_reducible show okWr _ _ = _); rfl) | ((with_reducible refine hA.row es _ _ ⟨hin, fun row hrow => ?_⟩); rw [e1] at hrow; subst hrow; cbv) | ((with_reducible refine hA.fin_pl _ _ _ ?_); cbv) | ((with_reducible refine hA.len _ _ _ _ _ fun z hz hb => ?_); cbv) | ((with_reducible refine hA.off _ _ _ _ fun b hb => ?_); cbv) | ((with_reducible refine hA.plus _ _ _ fun b hb => ?_); cbv) | ((with_reducible refine hA.st _ _ _ _ _ ⟨?_, fun ds hds => ?_⟩); rotate_left; cbv) | ((with_reducible refine hA.sapp _ _ _ ⟨?_, fun sl hsl => ?_⟩); rotate_left; cbv) | (simp only [hA.natLit, hA.natOf, hA.natCast]; cbv)
    all_goals try simp only [hA.add, hA.sub, hA.mul, hA.neg, hA.div, hA.mod, hA.mn, hA.mx, hA.eq, hA.lt, hA.le, hA.nat, hA.R, hA.lep, hA.ltp, hA.seq, inR, n_cast, Int.ofNat_eq_natCast, Option.getD_some, Option.getD_none] at *
    all_goals first
      | exact rdr_fin hA rfl (.inl rfl) (fun _ => rfl) fun _ => rfl
      | omega
      | (simp at *; omega)
      | (trace_state; fail)
  · refine ⟨(0, p), ⟨⟨⟨by omega, by omega⟩, h⟩, fun q => q⟩, procOf mixed p48 (rdr_side (fun _ => rfl) (fun _ => rfl) fun _ => rfl) fun A P hA hP => ?_⟩
    cbv
    repeat' first | with_reducible rfl | with_reducible refine And.intro ?_ ?_ | ((with_reducible intro hcc); first | (cases hcc; done) | skip) | ((with_reducible show goC _ _ _ _ _ _ _ _); cbv) | ((with_reducible show goOps _ _ _ _ _); cbv) | ((with_reducible show okWr _ _ = _); rfl) | ((with_reducible refine hA.fin_pl _ _ _ ?_); cbv) | ((with_reducible refine hA.len _ _ _ _ _ fun z hz hb => ?_); cbv) | ((with_reducible refine hA.off _ _ _ _ fun b hb => ?_); cbv) | ((with_reducible refine hA.plus _ _ _ fun b hb => ?_); cbv) | ((with_reducible refine hA.st _ _ _ _ _ ⟨?_, fun ds hds => ?_⟩); rotate_left; cbv) | ((with_reducible refine hA.sapp _ _ _ ⟨?_, fun sl hsl => ?_⟩); rotate_left; cbv) | (simp only [hA.natLit, hA.natOf, hA.natCast]; cbv)
    all_goals try simp only [hA.add, hA.sub, hA.mul, hA.neg, hA.div, hA.mod, hA.mn, hA.mx, hA.eq, hA.lt, hA.le, hA.nat, hA.R, hA.lep, hA.ltp, hA.seq, inR, n_cast, Int.ofNat_eq_natCast, Option.getD_some, Option.getD_none] at *
    all_goals first
      | exact rdr_fin hA rfl (.inl rfl) (fun _ => rfl) fun _ => rfl
      | omega
      | (simp at *; omega)
      | (trace_state; fail)
theorem ok48 {es : List (List E)} {p : Int} (h : RdOk es p) : ∃ x : Int × Int, ((0 ≤ x.1 ∧ x.1 ≤ 255) ∧ RdOk es x.2) ∧ Rdr 48 [] es p (.int x.1) x.2 := by
  obtain ⟨x, h1, h2⟩ := ok48b h
  exact ⟨x, h1.1, h2⟩
set_option maxRecDepth 100000 in
theorem ok49 {es : List (List E)} {p : Int} (h : RdOk es p) {r : Int} (hr : r = es.length - p) : Rdr 49 [] es p (.int r) p := procOf mixed p49 (rdr_side (fun _ => rfl) (fun _ => rfl) fun _ => rfl) fun A P hA hP => (by
  obtain ⟨hb, hl, p0, p1⟩ := h
  cbv
  repeat' first | with_reducible rfl | with_reducible refine And.intro ?_ ?_ | ((with_reducible intro hcc); first | (cases hcc; done) | skip) | ((with_reducible show goC _ _ _ _ _ _ _ _); cbv) | ((with_reducible show goOps _ _ _ _ _); cbv) | ((with_reducible show okWr _ _ = _); rfl) | ((with_reducible refine hA.fin_pl _ _ _ ?_); cbv) | ((with_reducible refine hA.len _ _ _ _ _ fun z hz hb => ?_); cbv) | (simp only [hA.natLit, hA.natOf, hA.natCast]; cbv)
  all_goals try simp only [hA.add, hA.sub, hA.mul, hA.neg, hA.div, hA.mod, hA.mn, hA.mx, hA.eq, hA.lt, hA.le, hA.nat, hA.R, hA.lep, hA.ltp, hA.seq, inR, n_cast, Int.ofNat_eq_natCast, Option.getD_some, Option.getD_none] at *
  all_goals first
    | exact rdr_fin hA rfl (.inl (by rw [hr, hz])) (fun _ => rfl) fun _ => rfl
    | omega
    | (trace_state; fail))
theorem bytesE_take (l : List UInt8) (n : Nat) : (bytesE l).take n = bytesE (l.take n) := by simp [bytesE, List.map_take]
set_option maxRecDepth 100000 in
theorem ok47 {es : List (List E)} (hb : ∃ l : List UInt8, es = bytesE l) : ∃ es', RdOk es' 0 ∧ Proc Try.prog 47 (fun _ => [.e (.sl es)]) (fun _ => []) (fun t => .ref (t 0) 0) (fun _ => [rd es' 0]) := by
  have side : ∀ es', Side (fun _ => [.e (.sl es)]) (fun _ => []) (fun t => .ref (t 0) 0) (fun _ => [rd es' 0]) := fun es' => ⟨fun t => rfl, rfl, fun t => rfl, by simp, fun t => rfl, fun t => rfl, by simp⟩
  have fin : ∀ {A : Ar} (hA : A.Ok) (l' : List O) (es' : List (List E)) (j : Nat), hpF l' j = rd es' 0 → A.finv [] l' (.ref j 0) [rd es' 0] (.ref 0 0) := fun hA l' es' j h =>
    hA.finv _ _ _ _ _ (FinV.ren [j] (fun _ => [rd es' 0]) (fun t => .ref (t 0) 0) rfl (.inl rfl) ⟨h, trivial⟩ (fun t => rfl) rfl (fun t => rfl) (by intro o ho; simp at ho; subst ho; rfl))
  by_cases hl : es.length ≤ 1500
  · refine ⟨es, ⟨hb, hl, by omega, by omega⟩, procOf mixed p47 (side _) fun A P hA hP => ?_⟩
    cbv
    repeat' first | with_reducible rfl | with_reducible refine And.intro ?_ ?_ | ((with_reducible intro hcc); first | (cases hcc; done) | skip) | ((with_reducible show goC _ _ _ _ _ _ _ _); cbv) | ((with_reducible show goOps _ _ _ _ _); cbv) | ((with_reducible show okWr _ _ = _); rfl) | ((with_reducible refine hA.fin_pl _ _ _ ?_); cbv) | ((with_reducible refine hA.len _ _ _ _ _ fun z hz hb => ?_); cbv) | ((with_reducible refine hA.slc _ _ _ _ _ ⟨?_, fun zs hzs => ?_⟩); rotate_left; cbv) | ((with_reducible refine hA.vsl _ _ _ _ ⟨?_, fun m hm => ?_⟩); rotate_left; cbv) | (simp only [hA.natLit, hA.natOf, hA.natCast]; cbv)
    all_goals try simp only [hA.add, hA.sub, hA.mul, hA.neg, hA.div, hA.mod, hA.mn, hA.mx, hA.eq, hA.lt, hA.le, hA.nat, hA.R, hA.lep, hA.ltp, hA.seq, inR, n_cast, Int.ofNat_eq_natCast, Option.getD_some, Option.getD_none] at *
    all_goals first
      | exact fin hA _ _ _ rfl
      | omega
      | (simp at *; omega)
      | (trace_state; fail)
  · obtain ⟨l, rfl⟩ := hb
    refine ⟨bytesE (l.take 1500), ⟨⟨_, rfl⟩, by simp [bytesE]; omega, by omega, by omega⟩, procOf mixed p47 (side _) fun A P hA hP => ?_⟩
    obtain ⟨es, hes⟩ : ∃ es, es = bytesE l := ⟨_, rfl⟩
    have hk : allLen 1 es := by rw [hes]; exact allLen_iff.2 fun e he => by obtain ⟨b, _, rfl⟩ := List.mem_map.1 he; rfl
    obtain ⟨es', hes'⟩ : ∃ es', es' = bytesE (l.take 1500) := ⟨_, rfl⟩
    rw [← hes] at hl ⊢
    rw [← hes']
    cbv
    repeat' first | with_reducible rfl | with_reducible refine And.intro ?_ ?_ | ((with_reducible intro hcc); first | (cases hcc; done) | skip) | ((with_reducible show goC _ _ _ _ _ _ _ _); cbv) | ((with_reducible show goOps _ _ _ _ _); cbv) | ((with_reducible show okWr _ _ = _); rfl) | ((with_reducible refine hA.fin_pl _ _ _ ?_); cbv) | ((with_reducible refine hA.len _ _ _ _ _ fun z hz hb => ?_); cbv) | ((with_reducible refine hA.slc _ _ _ _ _ ⟨?_, fun zs hzs => ?_⟩); rotate_left; cbv) | ((with_reducible refine hA.vsl _ _ _ _ ⟨?_, fun m hm => ?_⟩); rotate_left; cbv) | (simp only [hA.natLit, hA.natOf, hA.natCast]; cbv)
    all_goals try simp only [hA.add, hA.sub, hA.mul, hA.neg, hA.div, hA.mod, hA.mn, hA.mx, hA.eq, hA.lt, hA.le, hA.nat, hA.R, hA.lep, hA.ltp, hA.seq, inR, n_cast, Int.ofNat_eq_natCast, Option.getD_some, Option.getD_none] at *
    all_goals first
      | (have e7 : zs = es' := (by rw [hzs, hes', ← bytesE_take, hes]; rfl)
         subst e7
         exact fin hA _ _ _ rfl)
      | exact ⟨hk, by omega, by omega, by omega⟩
      | omega
      | (simp at *; omega)
      | (trace_state; fail)
set_option maxRecDepth 100000 in
theorem ok105 {es : List (List E)} {p : Int} (h : RdOk es p) : ∃ x : V × Int, RdOk es x.2 ∧ Rdr 105 [] es p (dv x.1) x.2 := by
  refine procEx (args := fun t => [.ref (t 0) 0]) (l0 := fun _ => [rd es p]) mixed (fun x : V × Int => RdOk es x.2) (fun x _ => dv x.1) (fun x _ => [rd es x.2]) p105 ⟨((false, 0), p), h⟩ (fun x _ => rdr_side (fun _ => rfl) (fun _ => rfl) fun _ => rfl) fun A P hA hP => ?_
  have hR := h
  cbv
  repeat' first | with_reducible rfl | with_reducible refine And.intro ?_ ?_ | ((with_reducible intro hcc); first | (cases hcc; done) | skip) | ((with_reducible show goC _ _ _ _ _ _ _ _); cbv) | ((with_reducible show goOps _ _ _ _ _); cbv) | ((with_reducible show okWr _ _ = _); rfl) | ((with_reducible show A.call _ _ _ _ _ 48 _ _ _); obtain ⟨⟨v, q⟩, ⟨⟨hv0, hv1⟩, hR⟩, hc⟩ := ok48 hR; refine callK_pr hA hP [0] (by rfl) (by exact ⟨rfl, trivial⟩) (Wks.refl _) ?_ (fun _ _ => hc) hc.side; cbv) | ((with_reducible refine callK_eq hA hP ?_ ?_ ?_ (Wks.refl _) (fun _ _ => ok159 _)); exact rfl; exact rfl; cbv) | ((with_reducible refine hA.fin_pl _ _ _ ?_); cbv) | ((with_reducible refine hA.st _ _ _ _ _ ⟨?_, fun ds hds => ?_⟩); rotate_left; cbv) | ((with_reducible refine hA.sapp _ _ _ ⟨?_, fun sl hsl => ?_⟩); rotate_left; cbv) | (simp only [hA.natLit, hA.natOf, hA.natCast]; cbv)
  all_goals try simp only [hA.add, hA.sub, hA.mul, hA.neg, hA.div, hA.mod, hA.mn, hA.mx, hA.eq, hA.lt, hA.le, hA.nat, hA.R, hA.lep, hA.ltp, hA.seq, inR, n_cast, Int.ofNat_eq_natCast, Option.getD_some, Option.getD_none] at *
  all_goals first
    | exact ⟨((_, _), _), hR, rdr_fin hA rfl (.inl rfl) (fun _ => rfl) fun _ => rfl⟩
    | omega
    | (trace_state; fail)
/-- A row is drawn. -/
theorem rows_app (l : List V) (v : V) : l.map vr ++ [[E.bool v.1, E.int v.2]] = (l ++ [v]).map vr := by simp
set_option maxRecDepth 100000 in
theorem ok51 {es : List (List E)} {p : Int} (h : RdOk es p) {n : Int} (hn : n ≤ 1000) : ∃ x : List V × Int, (RdOk es x.2 ∧ (x.1.length : Int) = max n 0) ∧ Rdr 51 [.int n] es p (.e (.sl (x.1.map vr))) x.2 := by
  refine procEx (args := fun t => [.ref (t 0) 0, .int n]) (l0 := fun _ => [rd es p]) mixed (fun x : List V × Int => RdOk es x.2 ∧ (x.1.length : Int) = max n 0) (fun x _ => .e (.sl (x.1.map vr))) (fun x _ => [rd es x.2]) p51 ⟨(List.replicate n.toNat (false, 0), p), h, by simp⟩ (fun x _ => rdr_side (fun _ => rfl) (fun _ => rfl) fun _ => rfl) fun A P hA hP => ?_
  cbv
  repeat' first | with_reducible rfl | with_reducible refine And.intro ?_ ?_ | ((with_reducible intro hcc); first | (cases hcc; done) | skip) | ((with_reducible show goC _ _ _ _ _ _ _ _); cbv) | ((with_reducible show goOps _ _ _ _ _); cbv) | ((with_reducible show okWr _ _ = _); rfl) | ((with_reducible refine hA.fin_pl _ _ _ ?_); cbv) | ((with_reducible refine hA.app _ _ _ _ _ ⟨?_, fun zs m hzs hm => ?_⟩); rotate_left; cbv) | ((with_reducible refine hA.app0 _ _ _ ⟨?_, fun m hm => ?_⟩); rotate_left; cbv) | ((with_reducible refine hA.alt _ _ (Or.inl ?_)); cbv) | ((with_reducible refine hA.appv _ _ _ _ _ _ ⟨?_, fun bb m ds hbb hm hds => ?_⟩); rotate_left; cbv) | ((with_reducible refine hA.vcut _ _ _ _ ⟨?_, fun cs hcs => ?_⟩); rotate_left; cbv) | ((with_reducible refine hA.appw _ _ _ _ _ _ _ ⟨?_, fun bb m ds hbb hm hds => ?_⟩); rotate_left; cbv) | ((with_reducible refine hA.sapp _ _ _ ⟨?_, fun sl hsl => ?_⟩); rotate_left; cbv) | (simp only [hA.natLit, hA.natOf, hA.natCast]; cbv)
  all_goals try simp only [hA.add, hA.sub, hA.mul, hA.neg, hA.div, hA.mod, hA.mn, hA.mx, hA.eq, hA.lt, hA.le, hA.nat, hA.R, hA.lep, hA.ltp, hA.seq, inR, n_cast, Int.ofNat_eq_natCast, Option.getD_some, Option.getD_none] at *
  refine hA.loopI (fun m s => ∃ (i q : Int) (l : List V) (x : List (List E)), 0 ≤ i ∧ m + i = max n 0 ∧ l.length = i ∧ x = l.map vr ∧ RdOk es q ∧ s = ⟨[(6, .int i), (5, .own 1 x), (1, .int n), (0, .ref 0 0)], [rd es q, .front x.length 2]⟩) (max n 0).toNat _
    ((Weak.zown 5 2 rfl).trans (Weak.keep (env' := [(6, .int 0), (5, .own 1 []), (1, .int n), (0, .ref 0 0)]) ⟨rfl, rfl, rfl, rfl, trivial⟩)) ⟨0, p, [], [], by omega, by omega, rfl, rfl, h, rfl⟩ ?_
  rintro mm s K ⟨i, q, l, x, h0, h1, h2, hx, hR, rfl⟩ hK
  have hxl : x.length = l.length := by rw [hx]; simp
  obtain ⟨k, hk⟩ : ∃ k, k = x.length := ⟨_, rfl⟩
  rw [← hk]
  cbv
  repeat' first | with_reducible rfl | with_reducible refine And.intro ?_ ?_ | ((with_reducible intro hcc); first | (cases hcc; done) | skip) | ((with_reducible show goC _ _ _ _ _ _ _ _); cbv) | ((with_reducible show goOps _ _ _ _ _); cbv) | ((with_reducible show okWr _ _ = _); rfl) | ((with_reducible show A.call _ _ _ _ _ 105 _ _ _); obtain ⟨⟨⟨v1, v2⟩, q'⟩, hR, hc⟩ := ok105 hR; refine callK_pr hA hP [0] (by rfl) (by exact ⟨rfl, trivial⟩) (Wks.refl _) ?_ (fun _ _ => hc) hc.side; cbv) | ((with_reducible refine hA.fin_pl _ _ _ ?_); cbv) | ((with_reducible refine hA.app _ _ _ _ _ ⟨?_, fun zs m hzs hm => ?_⟩); rotate_left; cbv) | ((with_reducible refine hA.app0 _ _ _ ⟨?_, fun m hm => ?_⟩); rotate_left; cbv) | ((with_reducible refine hA.alt _ _ (Or.inl ?_)); cbv) | ((with_reducible refine hA.appv _ _ _ _ _ _ ⟨?_, fun bb m ds hbb hm hds => ?_⟩); rotate_left; cbv) | ((with_reducible refine hA.vcut _ _ _ _ ⟨?_, fun cs hcs => ?_⟩); rotate_left; cbv) | ((with_reducible refine hA.appw _ _ _ _ _ _ _ ⟨?_, fun bb m ds hbb hm hds => ?_⟩); rotate_left; cbv) | ((with_reducible refine hA.sapp _ _ _ ⟨?_, fun sl hsl => ?_⟩); rotate_left; cbv) | (simp only [hA.natLit, hA.natOf, hA.natCast]; cbv)
  all_goals try simp only [hA.add, hA.sub, hA.mul, hA.neg, hA.div, hA.mod, hA.mn, hA.mx, hA.eq, hA.lt, hA.le, hA.nat, hA.R, hA.lep, hA.ltp, hA.seq, inR, n_cast, Int.ofNat_eq_natCast, Option.getD_some, Option.getD_none] at *
  all_goals first
    | (refine hK _ (mm - 1) _ (by simp at *; omega) (Weak.ren (l0 := [rd es p]) [0, 1] (fun t => [(6, .int (i + 1)), (5, .own (t 1) zs), (1, .int n), (0, .ref (t 0) 0)]) (fun t => [rd es q', .front zs.length 2]) rfl
        ⟨.inl rfl, .inl rfl, .inl rfl, .inl rfl, trivial⟩ ⟨rfl, by rw [← hm]; rfl, trivial⟩ ⟨fun t => rfl, rfl, fun t => rfl, by intro o ho; simp at ho; rcases ho with rfl | rfl <;> rfl⟩)
        ⟨i + 1, q', l ++ [(v1, v2)], zs, by omega, by simp at *; omega, by simp; omega, by rw [hzs, hx]; simp, hR, rfl⟩)
    | exact ⟨(l, q), ⟨hR, by simp at *; omega⟩, rdr_fin hA rfl (.inr (by rw [hx]; rfl)) (fun _ => rfl) fun _ => rfl⟩
    | omega
    | exact ⟨rfl, trivial⟩
    | (rw [hk]; done)
    | (simp only [List.length_cons, List.length_nil]; omega)
    | (trace_state; fail)
end Go.Proofs.Ytfplalbognalkaa.Ab
/- Draws of rows. -/
namespace Go.Proofs.Ytfplalbognalkaa.Ab
open Go
theorem ok51k {es : List (List E)} {p : Int} (h : RdOk es p) {n : Int} (hn : n ≤ 1000) : ∃ (l : List V) (x : List (List E)) (q : Int), x = l.map vr ∧ (l.length : Int) = max n 0 ∧ RdOk es q ∧ Rdr 51 [.int n] es p (.e (.sl x)) q := by
  obtain ⟨⟨l, q⟩, ⟨h1, h2⟩, h3⟩ := ok51 h hn
  exact ⟨l, _, q, rfl, h2, h1, h3⟩
set_option maxRecDepth 100000 in
theorem ok52 (l : Row) (es : List (List E)) (he : es = l.map vr) (hlen : es.length ≤ 1048576) : Plain Try.prog 52 [.e (.sl es)] (.e (.sl ((clR l).map vr))) := okOf mixed p52 fun A P hA hP => (by
  have hl1 : es.length = l.length := by rw [he]; simp
  obtain ⟨ts, hts⟩ : ∃ ts, ts = (clR l).map vr := ⟨_, rfl⟩
  have hl2 : ts.length = es.length := by rw [hts, hl1, clR]; simp
  rw [← hts]
  cbv
  repeat' first | with_reducible rfl | with_reducible refine And.intro ?_ ?_ | ((with_reducible intro hcc); first | (cases hcc; done) | skip) | ((with_reducible show goC _ _ _ _ _ _ _ _); cbv) | ((with_reducible show goOps _ _ _ _ _); cbv) | ((with_reducible show okWr _ _ = _); rfl) | ((with_reducible refine hA.fin_pl _ _ _ ?_); cbv) | ((with_reducible refine hA.len _ _ _ _ _ fun z hz hb => ?_); cbv) | ((with_reducible refine hA.off _ _ _ _ fun b hb => ?_); cbv) | ((with_reducible refine hA.app _ _ _ _ _ ⟨?_, fun zs m hzs hm => ?_⟩); rotate_left; cbv) | ((with_reducible refine hA.app0 _ _ _ ⟨?_, fun m hm => ?_⟩); rotate_left; cbv) | ((with_reducible refine hA.alt _ _ (Or.inl ?_)); cbv) | ((with_reducible refine hA.appv _ _ _ _ _ _ ⟨?_, fun bb m ds hbb hm hds => ?_⟩); rotate_left; cbv) | ((with_reducible refine hA.vcut _ _ _ _ ⟨?_, fun cs hcs => ?_⟩); rotate_left; cbv) | ((with_reducible refine hA.appw _ _ _ _ _ _ _ ⟨?_, fun bb m ds hbb hm hds => ?_⟩); rotate_left; cbv) | ((with_reducible refine hA.sapp _ _ _ ⟨?_, fun sl hsl => ?_⟩); rotate_left; cbv) | (simp only [hA.natLit, hA.natOf, hA.natCast]; cbv)
  all_goals try simp only [hA.add, hA.sub, hA.mul, hA.neg, hA.div, hA.mod, hA.mn, hA.mx, hA.eq, hA.lt, hA.le, hA.nat, hA.R, hA.lep, hA.ltp, hA.seq, inR, n_cast, Int.ofNat_eq_natCast, Option.getD_some, Option.getD_none] at *
  refine hA.loopI (fun n s => ∃ (i : Int) (xs : List (List E)), 0 ≤ i ∧ n + i = es.length ∧ xs = ts.take i.toNat ∧
      s = ⟨[(4, .int i), (3, .own 0 xs), (0, .e (.sl es))], [.front xs.length 2]⟩) es.length _
    ((Weak.zown 3 2 rfl).trans (Weak.keep (env' := [(4, .int 0), (3, .own 0 []), (0, .e (.sl es))]) ⟨rfl, rfl, rfl, trivial⟩))
    ⟨0, [], by omega, by omega, rfl, rfl⟩ ?_
  rintro n s K ⟨i, xs, h0, h1, h2, rfl⟩ hK
  obtain ⟨k, hk⟩ : ∃ k, k = xs.length := ⟨_, rfl⟩
  have hxl : xs.length = i.toNat := by rw [h2, List.length_take]; omega
  rw [← hk]
  by_cases hin : (0 : Int) ≤ i ∧ i < es.length
  · obtain ⟨⟨b1, v1⟩, e1, q1⟩ := row_at he hin
    obtain ⟨⟨b2, v2⟩, hcl⟩ : ∃ q, q = clean (b1, v1) := ⟨_, rfl⟩
    have h95 : Plain Try.prog 106 [dVal b1 v1] (dVal b2 v2) := by have := ok106 b1 v1; rw [← hcl] at this; exact this
    have hrow : ts.take (i + 1).toNat = xs ++ [[E.bool b2, E.int v2]] := by
      rw [show (i + 1).toNat = i.toNat + 1 by omega, List.take_add_one, ← h2, hts, clR, List.map_map, List.getElem?_map, q1]
      simp [← hcl]
    clear hcl he hts
    cbv
    repeat' first | with_reducible rfl | with_reducible refine And.intro ?_ ?_ | ((with_reducible intro hcc); first | (cases hcc; done) | skip) | ((with_reducible show goC _ _ _ _ _ _ _ _); cbv) | ((with_reducible show goOps _ _ _ _ _); cbv) | ((with_reducible show okWr _ _ = _); rfl) | ((with_reducible refine callK_eq hA hP ?_ ?_ ?_ (Wks.refl _) (fun _ _ => h95)); exact rfl; exact rfl; cbv) | ((with_reducible refine hA.row es _ _ ⟨hin, fun row hrow => ?_⟩); rw [e1] at hrow; subst hrow; cbv) | ((with_reducible refine hA.fin_pl _ _ _ ?_); cbv) | ((with_reducible refine hA.len _ _ _ _ _ fun z hz hb => ?_); cbv) | ((with_reducible refine hA.off _ _ _ _ fun b hb => ?_); cbv) | ((with_reducible refine hA.app _ _ _ _ _ ⟨?_, fun zs m hzs hm => ?_⟩); rotate_left; cbv) | ((with_reducible refine hA.app0 _ _ _ ⟨?_, fun m hm => ?_⟩); rotate_left; cbv) | ((with_reducible refine hA.alt _ _ (Or.inl ?_)); cbv) | ((with_reducible refine hA.appv _ _ _ _ _ _ ⟨?_, fun bb m ds hbb hm hds => ?_⟩); rotate_left; cbv) | ((with_reducible refine hA.vcut _ _ _ _ ⟨?_, fun cs hcs => ?_⟩); rotate_left; cbv) | ((with_reducible refine hA.appw _ _ _ _ _ _ _ ⟨?_, fun bb m ds hbb hm hds => ?_⟩); rotate_left; cbv) | ((with_reducible refine hA.sapp _ _ _ ⟨?_, fun sl hsl => ?_⟩); rotate_left; cbv) | (simp only [hA.natLit, hA.natOf, hA.natCast]; cbv)
    all_goals try simp only [hA.add, hA.sub, hA.mul, hA.neg, hA.div, hA.mod, hA.mn, hA.mx, hA.eq, hA.lt, hA.le, hA.nat, hA.R, hA.lep, hA.ltp, hA.seq, inR, n_cast, Int.ofNat_eq_natCast, Option.getD_some, Option.getD_none] at *
    all_goals first
      | omega
      | (rw [hk]; done)
      | exact ⟨rfl, trivial⟩
      | (simp only [List.length_cons, List.length_nil]; omega)
      | (have hz2 : zs = ts.take (i + 1).toNat := by rw [hzs, hrow]
         refine hK _ (n - 1) _ (by omega) (Weak.ren (l0 := []) [0] (fun t => [(4, .int (i + 1)), (3, .own (t 0) zs), (0, .e (.sl es))]) (fun _ => [.front zs.length 2]) rfl
               ⟨.inl rfl, .inl rfl, .inl rfl, trivial⟩ ⟨by rw [← hm]; rfl, trivial⟩ ⟨fun t => rfl, rfl, fun t => rfl, by intro o ho; rw [List.mem_singleton] at ho; subst ho; rfl⟩)
             ⟨i + 1, zs, by omega, by omega, hz2, rfl⟩)
      | (clear hK; simp at *; omega)
      | (trace_state; fail)
  · have hxe : xs = ts := by rw [h2]; exact List.take_of_length_le (by omega)
    clear hK h2
    cbv
    repeat' first | with_reducible rfl | with_reducible refine And.intro ?_ ?_ | ((with_reducible intro hcc); first | (cases hcc; done) | skip) | ((with_reducible show goC _ _ _ _ _ _ _ _); cbv) | ((with_reducible show goOps _ _ _ _ _); cbv) | ((with_reducible show okWr _ _ = _); rfl) | (exfalso; simp only [hA.lt, hA.sub, decide_eq_true_eq, decide_eq_false_iff_not, n_cast] at *; omega) | ((with_reducible refine hA.fin_pl _ _ _ ?_); cbv) | ((with_reducible refine hA.len _ _ _ _ _ fun z hz hb => ?_); cbv) | ((with_reducible refine hA.off _ _ _ _ fun b hb => ?_); cbv) | ((with_reducible refine hA.app _ _ _ _ _ ⟨?_, fun zs m hzs hm => ?_⟩); rotate_left; cbv) | ((with_reducible refine hA.app0 _ _ _ ⟨?_, fun m hm => ?_⟩); rotate_left; cbv) | ((with_reducible refine hA.alt _ _ (Or.inl ?_)); cbv) | ((with_reducible refine hA.appv _ _ _ _ _ _ ⟨?_, fun bb m ds hbb hm hds => ?_⟩); rotate_left; cbv) | ((with_reducible refine hA.vcut _ _ _ _ ⟨?_, fun cs hcs => ?_⟩); rotate_left; cbv) | ((with_reducible refine hA.appw _ _ _ _ _ _ _ ⟨?_, fun bb m ds hbb hm hds => ?_⟩); rotate_left; cbv) | ((with_reducible refine hA.sapp _ _ _ ⟨?_, fun sl hsl => ?_⟩); rotate_left; cbv) | (simp only [hA.natLit, hA.natOf, hA.natCast]; cbv)
    all_goals try simp only [hA.add, hA.sub, hA.mul, hA.neg, hA.div, hA.mod, hA.mn, hA.mx, hA.eq, hA.lt, hA.le, hA.nat, hA.R, hA.lep, hA.ltp, hA.seq, inR, n_cast, Int.ofNat_eq_natCast, Option.getD_some, Option.getD_none] at *
    all_goals first
      | (rw [hxe])
      | omega
      | (trace_state; fail))
/-- A draw of a slice that may still be appended to. -/
abbrev RdO (fn : FuncId) (args : List D) (es : List (List E)) (p : Int) (k : Nat) (x : List (List E)) (m : Nat) (q : Int) : Prop := Proc Try.prog fn (fun t => .ref (t 0) 0 :: args) (fun _ => [rd es p]) (fun t => .own (t 1) x) (fun _ => [rd es q, .front m k])
theorem rdo_side {args : List D} {es : List (List E)} {p q : Int} {k : Nat} {x : List (List E)} (ha : ∀ t, rens t args = args) (hl : ∀ m, lts m args = true) : Side (fun t => .ref (t 0) 0 :: args) (fun _ => [rd es p]) (fun t => .own (t 1) x) (fun _ => [rd es q, .front x.length k]) :=
  ⟨fun t => by simp [rens, D.ren, ha], by simp [lts, D.lt, hl], fun t => rfl, by intro o ho; simp at ho; subst ho; rfl, fun t => rfl, fun t => rfl, by simp⟩
theorem rdo_fin {A : Ar} (hA : A.Ok) {es : List (List E)} {p q : Int} {k m j : Nat} {x : List (List E)} {l' : List O} (h0 : hpF l' 0 = rd es q) (h1 : hpF l' j = .front m k) (hm : m = x.length) (hj : (0 == j) = false) : A.finv [rd es p] l' (.own j x) [rd es q, .front x.length k] (.own 1 x) := by
  subst hm
  exact hA.finv _ _ _ _ _ (FinV.ren [0, j] (fun _ => [rd es q, .front x.length k]) (fun t => .own (t 1) x) (by simp [ndB, firstB]; simpa using hj) (.inl rfl) ⟨h0, h1, trivial⟩ (fun t => rfl) rfl (fun t => rfl) (by intro o ho; simp at ho; rcases ho with rfl | rfl <;> rfl))
set_option maxRecDepth 100000 in
set_option maxHeartbeats 1000000 in
theorem ok50 {es : List (List E)} {p : Int} (h : RdOk es p) {n w : Int} (hn : n ≤ 200) (hw : w ≤ 1000) : ∃ (l : List Row) (x : List (List E)) (m : Nat) (q : Int), x = l.map rsr ∧ m = x.length ∧ ((l.length : Int) = max n 0 ∧ (∀ r ∈ l, r.length ≤ 1000) ∧ RdOk es q) ∧ RdO 50 [.int n, .int w] es p 1 x m q := by
  suffices H : ∃ x : List Row × Int, ((x.1.length : Int) = max n 0 ∧ (∀ r ∈ x.1, r.length ≤ 1000) ∧ RdOk es x.2) ∧ RdO 50 [.int n, .int w] es p 1 (x.1.map rsr) (x.1.map rsr).length x.2 by
    obtain ⟨⟨l, q⟩, h1, h2⟩ := H
    exact ⟨l, _, _, q, rfl, rfl, h1, h2⟩
  refine procEx (args := fun t => [.ref (t 0) 0, .int n, .int w]) (l0 := fun _ => [rd es p]) mixed (fun x : List Row × Int => (x.1.length : Int) = max n 0 ∧ (∀ r ∈ x.1, r.length ≤ 1000) ∧ RdOk es x.2) (fun x t => .own (t 1) (x.1.map rsr)) (fun x _ => [rd es x.2, .front (x.1.map rsr).length 1]) p50 ⟨(List.replicate n.toNat [], p), by simp, by simp, h⟩ (fun x _ => rdo_side (fun _ => rfl) (fun _ => rfl)) fun A P hA hP => ?_
  cbv
  repeat' first | with_reducible rfl | with_reducible refine And.intro ?_ ?_ | ((with_reducible intro hcc); first | (cases hcc; done) | skip) | ((with_reducible show goC _ _ _ _ _ _ _ _); cbv) | ((with_reducible show goOps _ _ _ _ _); cbv) | ((with_reducible show okWr _ _ = _); rfl) | ((with_reducible refine hA.fin_pl _ _ _ ?_); cbv) | ((with_reducible refine hA.len _ _ _ _ _ fun z hz hb => ?_); cbv) | ((with_reducible refine hA.off _ _ _ _ fun b hb => ?_); cbv) | ((with_reducible refine hA.app _ _ _ _ _ ⟨?_, fun zs m hzs hm => ?_⟩); rotate_left; cbv) | ((with_reducible refine hA.app0 _ _ _ ⟨?_, fun m hm => ?_⟩); rotate_left; cbv) | ((with_reducible refine hA.alt _ _ (Or.inl ?_)); cbv) | ((with_reducible refine hA.appv _ _ _ _ _ _ ⟨?_, fun bb m ds hbb hm hds => ?_⟩); rotate_left; cbv) | ((with_reducible refine hA.vcut _ _ _ _ ⟨?_, fun cs hcs => ?_⟩); rotate_left; cbv) | ((with_reducible refine hA.appw _ _ _ _ _ _ _ ⟨?_, fun bb m ds hbb hm hds => ?_⟩); rotate_left; cbv) | ((with_reducible refine hA.sapp _ _ _ ⟨?_, fun sl hsl => ?_⟩); rotate_left; cbv) | ((with_reducible refine hA.gb0 true _ ?_); cbv) | ((with_reducible refine hA.gb0 false _ ?_); cbv) | ((with_reducible refine hA.gb _ _ fun vb hvb => ?_); cbv) | (simp only [hA.natLit, hA.natOf, hA.natCast]; cbv)
  all_goals try simp only [hA.add, hA.sub, hA.mul, hA.neg, hA.div, hA.mod, hA.mn, hA.mx, hA.eq, hA.lt, hA.le, hA.nat, hA.R, hA.lep, hA.ltp, hA.seq, inR, n_cast, Int.ofNat_eq_natCast, Option.getD_some, Option.getD_none] at *
  refine hA.loopI (fun m s => ∃ (i q : Int) (l : List Row) (x : List (List E)), 0 ≤ i ∧ m + i = max n 0 ∧ l.length = i ∧ (∀ r ∈ l, r.length ≤ 1000) ∧ x = l.map rsr ∧ RdOk es q ∧ s = ⟨[(8, .int i), (7, .own 1 x), (1, .int n), (2, .int w), (0, .ref 0 0)], [rd es q, .front x.length 1]⟩) (max n 0).toNat _
    ((Weak.zown 7 1 rfl).trans (Weak.keep (env' := [(8, .int 0), (7, .own 1 []), (1, .int n), (2, .int w), (0, .ref 0 0)]) ⟨rfl, rfl, rfl, rfl, rfl, trivial⟩)) ⟨0, p, [], [], by omega, by omega, rfl, by simp, rfl, h, rfl⟩ ?_
  rintro mm s K ⟨i, q, l, x, h0, h1, h2, hb, hx, hR, rfl⟩ hK
  have hxl : x.length = l.length := by rw [hx]; simp
  obtain ⟨k, hk⟩ : ∃ k, k = x.length := ⟨_, rfl⟩
  rw [← hk]
  have hrw : ∀ j : Int, 0 ≤ j ∧ j < x.length → ∃ (r : Row) (x1 : List (List E)), x.getD j.toNat [] = [E.sl x1] ∧ x1 = r.map vr ∧ r.length ≤ 1000 := fun j hj => by
    obtain ⟨r, e1, q1⟩ := row_at hx hj
    exact ⟨r, _, e1, rfl, hb r (List.mem_of_getElem? q1)⟩
  have hK2 : ∀ (r : Row) (x2 zs : List (List E)) (m : Nat) (q' : Int) (env : List (Nat × D)) (hp : List O), i < n → r.length ≤ 1000 → x2 = r.map vr → zs = x ++ [[E.sl x2]] → m = zs.length → RdOk es q' → hpF hp 0 = rd es q' → hpF hp 1 = .front m 1 →
      subW [(8, .int (i + 1)), (7, .own 1 zs), (1, .int n), (2, .int w), (0, .ref 0 0)] env → K ⟨env, hp⟩ := fun r x2 zs m q' env hp g1 g2 g3 g4 g5 g6 g7 g8 g9 =>
    hK _ (mm - 1) _ (by omega) (Weak.ren (l0 := [rd es p]) [0, 1] (fun t => [(8, .int (i + 1)), (7, .own (t 1) zs), (1, .int n), (2, .int w), (0, .ref (t 0) 0)]) (fun t => [rd es q', .front zs.length 1]) rfl
        g9 ⟨g7, by rw [g8, g5], trivial⟩ ⟨fun t => rfl, rfl, fun t => rfl, by intro o ho; simp at ho; rcases ho with rfl | rfl <;> rfl⟩)
      ⟨i + 1, q', l ++ [r], zs, by omega, by omega, by simp; omega, (fun y hy => by
        rcases List.mem_append.1 hy with hy | hy
        · exact hb y hy
        · simp at hy; subst hy; exact g2), by rw [g4, hx, g3]; simp, g6, rfl⟩
  clear hK
  cbv
  repeat' first | with_reducible rfl | (simp only [he3]; cbv) | with_reducible refine And.intro ?_ ?_ | ((with_reducible intro hcc); first | (cases hcc; done) | skip) | ((with_reducible show goC _ _ _ _ _ _ _ _); cbv) | ((with_reducible show goOps _ _ _ _ _); cbv) | ((with_reducible show okWr _ _ = _); rfl) | ((with_reducible show A.call _ _ _ _ _ 48 _ _ _); obtain ⟨⟨v, q'⟩, ⟨⟨hv0, hv1⟩, hR⟩, hc⟩ := ok48 hR; obtain ⟨e3, he3⟩ : ∃ e3, A.eq (A.mod v 4) 3 = e3 := ⟨_, rfl⟩; cases e3 <;> (refine callK_pr hA hP [0] (by rfl) (by exact ⟨rfl, trivial⟩) (Wks.refl _) ?_ (fun _ _ => hc) hc.side; cbv)) | ((with_reducible show A.call _ _ _ _ _ 51 _ _ _); obtain ⟨l7, x7, q', hx7, hl7, hR, hc⟩ := ok51k hR hw; refine callK_pr hA hP [0] (by rfl) (by exact ⟨rfl, trivial⟩) (Wks.refl _) ?_ (fun _ _ => hc) hc.side; cbv) | ((with_reducible refine hA.row x _ _ ?_); have hin : (0 : Int) ≤ A.mod (A.div v 4) z ∧ A.mod (A.div v 4) z < x.length := (by have q9 := hvb.symm.trans (by assumption : vb = true); rw [hA.lt] at q9; have := of_decide_eq_true q9; have hz9 : z = (x.length : Int) := hz; rw [hA.mod, hA.div]; exact ⟨Int.emod_nonneg _ (by omega), by have := Int.emod_lt_of_pos (v / 4) (show 0 < z by omega); omega⟩); obtain ⟨r1, x1, e1, hx1, hr1⟩ := hrw _ hin; refine ⟨hin, fun row hrow => ?_⟩; rw [e1] at hrow; subst hrow; cbv) | ((with_reducible show A.call _ _ _ _ _ 52 _ _ _); obtain ⟨x2, hx2⟩ : ∃ y, y = (clR r1).map vr := ⟨_, rfl⟩; have h78 := ok52 r1 x1 hx1 (by rw [hx1, List.length_map]; omega); rw [← hx2] at h78; refine callK_eq hA hP ?_ ?_ ?_ (Wks.refl _) (fun _ _ => h78); exact rfl; exact rfl; cbv) | ((with_reducible refine hA.fin_pl _ _ _ ?_); cbv) | ((with_reducible refine hA.len _ _ _ _ _ fun z hz hb => ?_); cbv) | ((with_reducible refine hA.off _ _ _ _ fun b hb => ?_); cbv) | ((with_reducible refine hA.app _ _ _ _ _ ⟨?_, fun zs m hzs hm => ?_⟩); rotate_left; cbv) | ((with_reducible refine hA.app0 _ _ _ ⟨?_, fun m hm => ?_⟩); rotate_left; cbv) | ((with_reducible refine hA.alt _ _ (Or.inl ?_)); cbv) | ((with_reducible refine hA.appv _ _ _ _ _ _ ⟨?_, fun bb m ds hbb hm hds => ?_⟩); rotate_left; cbv) | ((with_reducible refine hA.vcut _ _ _ _ ⟨?_, fun cs hcs => ?_⟩); rotate_left; cbv) | ((with_reducible refine hA.appw _ _ _ _ _ _ _ ⟨?_, fun bb m ds hbb hm hds => ?_⟩); rotate_left; cbv) | ((with_reducible refine hA.sapp _ _ _ ⟨?_, fun sl hsl => ?_⟩); rotate_left; cbv) | ((with_reducible refine hA.gb0 true _ ?_); cbv) | ((with_reducible refine hA.gb0 false _ ?_); cbv) | ((with_reducible refine hA.gb _ _ fun vb hvb => ?_); cbv) | (simp only [hA.natLit, hA.natOf, hA.natCast]; cbv)
  all_goals try simp only [hA.add, hA.sub, hA.mul, hA.neg, hA.div, hA.mod, hA.mn, hA.mx, hA.eq, hA.lt, hA.le, hA.nat, hA.R, hA.lep, hA.ltp, hA.seq, inR, n_cast, Int.ofNat_eq_natCast, Option.getD_some, Option.getD_none] at *
  all_goals first
    | exact hK2 (clR r1) x2 _ _ _ _ _ (by simp at *; omega) (by rw [clR, List.length_map]; omega) hx2 hzs hm hR rfl rfl ⟨.inl rfl, .inl rfl, .inl rfl, .inl rfl, .inl rfl, trivial⟩
    | exact hK2 l7 x7 _ _ _ _ _ (by simp at *; omega) (by omega) hx7 hzs hm hR rfl rfl ⟨.inl rfl, .inl rfl, .inl rfl, .inl rfl, .inl rfl, trivial⟩
    | exact ⟨(l, q), ⟨by simp at *; omega, hb, hR⟩, by rw [hx] at hk ⊢; exact rdo_fin hA rfl rfl hk rfl⟩
    | omega
    | exact ⟨rfl, trivial⟩
    | (rw [hk]; done)
    | (simp only [List.length_cons, List.length_nil]; omega)
    | (have q9 := hvb.symm.trans (by assumption : vb = true); have := of_decide_eq_true q9; omega)
    | (simp at *; omega)
    | (trace_state; fail)
end Go.Proofs.Ytfplalbognalkaa.Ab
/- Draws: pairs of Vals, leaves, expressions. -/
namespace Go.Proofs.Ytfplalbognalkaa.Ab
open Go
abbrev dop (o : Int × Int) : D := .agg [.int o.1, .int o.2]
/-- The cells of Ops. -/
def dsO (l : List (Int × Int)) : List D := (l.map orow).flatten.map D.e
theorem dsO_app (a b : List (Int × Int)) : dsO (a ++ b) = dsO a ++ dsO b := by simp [dsO]
theorem dsO_len (l : List (Int × Int)) : (dsO l).length = l.length * 2 := by
  rw [dsO, List.length_map, flatten_len (k := 2)]
  · simp
  · intro e he; obtain ⟨p, _, rfl⟩ := List.mem_map.1 he; rfl
theorem dsO_cut {l : List (Int × Int)} {n : Nat} (h : n = l.length) : (dsO l).take (n * 2) = dsO l := by subst h; exact List.take_of_length_le (by rw [dsO_len]; exact Nat.le_refl _)
theorem dsO_e (l : List (Int × Int)) : ∃ xs : List E, dsO l = xs.map .e := ⟨_, rfl⟩
theorem dsO_ren (t : RF) (l : List (Int × Int)) : rens t (dsO l) = dsO l := rens_e t _
theorem dsO_lt (m : Nat) (l : List (Int × Int)) : lts m (dsO l) = true := lts_e m _
abbrev Ops := List (Int × Int)
/-- The reader, and Ops that are written in place. -/
abbrev RdV (fn : FuncId) (args : List D) (es : List (List E)) (p : Int) (l : Ops) (q : Int) : Prop := Proc Try.prog fn (fun t => .ref (t 0) 0 :: args) (fun _ => [rd es p]) (fun t => .vec (t 1) l.length 2) (fun _ => [rd es q, .vec true 2 (dsO l)])
theorem rdv_side {args : List D} {es : List (List E)} {p q : Int} {l : Ops} (ha : ∀ t, rens t args = args) (hl : ∀ m, lts m args = true) : Side (fun t => .ref (t 0) 0 :: args) (fun _ => [rd es p]) (fun t => .vec (t 1) l.length 2) (fun _ => [rd es q, .vec true 2 (dsO l)]) :=
  ⟨fun t => by simp [rens, D.ren, ha], by simp [lts, D.lt, hl], fun t => rfl, by intro o ho; simp at ho; subst ho; rfl, fun t => rfl, fun t => by simp [O.ren, dsO_ren, rens, D.ren], by simp⟩
theorem rdv_fin {A : Ar} (hA : A.Ok) {es : List (List E)} {p q : Int} {l : Ops} {m j : Nat} {l' : List O} {b : Bool} {ds : List D} (h0 : hpF l' 0 = rd es q) (h1 : hpF l' j = .vec b 2 ds) (hb : b = true) (hj : (0 == j) = false) (hm : m = l.length) (hd : ds = dsO l) : A.finv [rd es p] l' (.vec j m 2) [rd es q, .vec true 2 (dsO l)] (.vec 1 l.length 2) := by
  subst hm; subst hd; subst hb
  exact hA.finv _ _ _ _ _ (FinV.ren [0, j] (fun _ => [rd es q, .vec true 2 (dsO l)]) (fun t => .vec (t 1) l.length 2) (by simp [ndB, firstB]; simpa using hj) (.inl rfl) ⟨h0, h1, trivial⟩ (fun t => rfl) rfl (fun t => by simp [O.ren, dsO_ren, rens, D.ren])
    (by intro o ho; simp at ho; rcases ho with rfl | rfl <;> simp [O.lt, dsO_lt, lts, D.lt]))
theorem rdv_hide {fn : FuncId} {args : List D} {es : List (List E)} {p : Int} {R : Ops × Int → Prop} (h : ∃ x : Ops × Int, R x ∧ RdV fn args es p x.1 x.2) : ∃ (l : Ops) (m : Nat) (ds : List D) (q : Int), m = l.length ∧ ds = dsO l ∧ R (l, q) ∧
    Proc Try.prog fn (fun t => .ref (t 0) 0 :: args) (fun _ => [rd es p]) (fun t => .vec (t 1) m 2) (fun _ => [rd es q, .vec true 2 ds]) := by
  obtain ⟨⟨l, q⟩, h1, h2⟩ := h
  exact ⟨l, _, _, q, rfl, rfl, h1, h2⟩
end Go.Proofs.Ytfplalbognalkaa.Ab
/- Draws: expressions, spoilt or long. -/
namespace Go.Proofs.Ytfplalbognalkaa.Ab
open Go
theorem dsO_split {l : Ops} {i : Nat} (h : i < l.length) : ∃ (A B : Ops) (x : Int × Int), A.length = i ∧ l.length = i + 1 + B.length ∧ dsO l = dsO A ++ (D.int x.1 :: D.int x.2 :: dsO B) := by
  refine ⟨l.take i, l.drop (i + 1), l[i], by simp; omega, by simp; omega, ?_⟩
  have : l = l.take i ++ (l[i] :: l.drop (i + 1)) := by simp
  conv => lhs; rw [this, dsO_app]
  rfl
theorem dsO_store2 {l : Ops} {ds ds' : List D} {off : Nat} {i : Int} {a c : Int} (hd : ds = dsO l) (h : 0 ≤ i ∧ i < l.length) (ho : off = 0 + i.toNat * 2) (hd' : ds' = ds.take off ++ [D.int a, D.int c] ++ ds.drop (off + 2)) : ∃ l2 : Ops, l2.length = l.length ∧ ds' = dsO l2 := by
  obtain ⟨A, B, x, h1, h2, h3⟩ := dsO_split (l := l) (i := i.toNat) (by omega)
  have hA := dsO_len A
  refine ⟨A ++ (a, c) :: B, by simp; omega, ?_⟩
  have e : off = (dsO A).length := by omega
  rw [hd', hd, h3, e, dsO_app]
  simp
  rfl
theorem dsO_store0 {l : Ops} {ds ds' : List D} {off : Nat} {i : Int} {a : Int} (hd : ds = dsO l) (h : 0 ≤ i ∧ i < l.length) (ho : off = 0 + i.toNat * 2) (hd' : ds' = ds.take off ++ [D.int a] ++ ds.drop (off + 1)) : ∃ l2 : Ops, l2.length = l.length ∧ ds' = dsO l2 := by
  obtain ⟨A, B, x, h1, h2, h3⟩ := dsO_split (l := l) (i := i.toNat) (by omega)
  have hA := dsO_len A
  refine ⟨A ++ (a, x.2) :: B, by simp; omega, ?_⟩
  have e : off = (dsO A).length := by omega
  rw [hd', hd, h3, e, dsO_app]
  simp
  rfl
theorem dsO_store1 {l : Ops} {ds ds' : List D} {off : Nat} {i : Int} {a : Int} (hd : ds = dsO l) (h : 0 ≤ i ∧ i < l.length) (ho : off = 0 + i.toNat * 2 + 1) (hd' : ds' = ds.take off ++ [D.int a] ++ ds.drop (off + 1)) : ∃ l2 : Ops, l2.length = l.length ∧ ds' = dsO l2 := by
  obtain ⟨A, B, x, h1, h2, h3⟩ := dsO_split (l := l) (i := i.toNat) (by omega)
  have hA := dsO_len A
  refine ⟨A ++ (x.1, a) :: B, by simp; omega, ?_⟩
  have e : off = (dsO A).length + 1 := by omega
  have t1 : (dsO A ++ D.int x.1 :: D.int x.2 :: dsO B).take ((dsO A).length + 1) = dsO A ++ [D.int x.1] := by rw [List.take_append, List.take_of_length_le (by omega)]; simp
  have t2 : (dsO A ++ D.int x.1 :: D.int x.2 :: dsO B).drop ((dsO A).length + 1 + 1) = dsO B := by
    rw [List.drop_append, List.drop_eq_nil_of_le (by omega), show (dsO A).length + 1 + 1 - (dsO A).length = 2 by omega]; rfl
  rw [hd', hd, h3, e, dsO_app, t1, t2]
  simp
  rfl
theorem dsO_take (l : Ops) (n : Nat) : (dsO l).take (n * 2) = dsO (l.take n) := by
  induction l generalizing n with
  | nil => simp [dsO]
  | cons x l ih =>
    cases n with
    | zero => simp [dsO]
    | succ n =>
      have e : dsO (x :: l) = D.int x.1 :: D.int x.2 :: dsO l := rfl
      rw [e, Nat.succ_mul]
      show _ = D.int x.1 :: D.int x.2 :: dsO (l.take n)
      rw [← ih]
      rfl
theorem orow_len {l : Ops} : ∀ e ∈ l.map orow, e.length = 2 := fun e he => by obtain ⟨p, _, rfl⟩ := List.mem_map.1 he; rfl
theorem spo_fin {A : Ar} (hA : A.Ok) {es : List (List E)} {p q : Int} {l : Ops} {n j : Nat} {l' : List O} {b : Bool} {ds ds0 : List D} (h0 : hpF l' 0 = rd es q) (h1 : hpF l' j = .vec b 2 ds) (hj : (0 == j) = false) (hg : j = 1 ∨ hpF l' 1 = .gone) (hn : n = l.length) (hd : ds.take (n * 2) = dsO l) :
    A.finv [rd es p, .vec true 2 ds0] l' (.vec j n 2) [rd es q, .gone] (.e (.sl (l.map orow))) := by
  have hj : 0 ≠ j := by simpa using hj
  obtain ⟨a1, a2⟩ := hpF_set (o := .gone) (hp_lt (l := l') (i := j) (by rw [h1]; simp))
  refine hA.finv _ _ _ _ _ ((FinV.pub h1 (by simp [hn]) hd orow_len).trans (FinV.ren [0, 1] (fun _ => [rd es q, .gone]) (fun _ => .e (.sl (l.map orow))) rfl (.inl rfl) ⟨(a2 0 hj).trans h0, ?_, trivial⟩ (fun t => rfl) rfl (fun t => rfl) (by intro o ho; simp at ho; rcases ho with rfl | rfl <;> rfl)))
  rcases hg with rfl | hg
  · exact a1
  · by_cases e : 1 = j
    · subst e; exact a1
    · exact (a2 1 e).trans hg
end Go.Proofs.Ytfplalbognalkaa.Ab
/- Draws for EvalEx. -/
namespace Go.Proofs.Ytfplalbognalkaa.Ab
open Go
theorem ok49h {es : List (List E)} {p : Int} (h : RdOk es p) : ∃ r : Int, (r = es.length - p ∧ -2000 ≤ r ∧ r ≤ 1500) ∧ Rdr 49 [] es p (.int r) p := by
  have := h.le; have := h.p0; have := h.p1
  exact ⟨_, ⟨rfl, by omega, by omega⟩, ok49 h rfl⟩
theorem ok51h {es : List (List E)} {p : Int} (h : RdOk es p) {n : Int} (hn : n ≤ 1000) : ∃ (l : List V) (x : List (List E)) (q : Int), x = l.map vr ∧ (l.length : Int) = max n 0 ∧ RdOk es q ∧ Rdr 51 [.int n] es p (.e (.sl x)) q := by
  obtain ⟨⟨l, q⟩, ⟨h1, h2⟩, h3⟩ := ok51 h hn
  exact ⟨l, _, q, rfl, h2, h1, h3⟩
theorem rdp_fin {A : Ar} (hA : A.Ok) {es : List (List E)} {p q : Int} {l : Ops} {n j : Nat} {l' : List O} {b : Bool} {ds : List D} (h0 : hpF l' 0 = rd es q) (h1 : hpF l' j = .vec b 2 ds) (hj : (0 == j) = false) (hn : n = l.length) (hd : ds = dsO l) :
    A.finv [rd es p] l' (.vec j n 2) [rd es q] (.e (.sl (l.map orow))) := by
  have hj : 0 ≠ j := by simpa using hj
  obtain ⟨a1, a2⟩ := hpF_set (o := .gone) (hp_lt (l := l') (i := j) (by rw [h1]; simp))
  exact hA.finv _ _ _ _ _ ((FinV.pub h1 (by simp [hn]) (by rw [hd]; exact dsO_cut hn) orow_len).trans (FinV.ren [0] (fun _ => [rd es q]) (fun _ => .e (.sl (l.map orow))) rfl (.inl rfl) ⟨(a2 0 hj).trans h0, trivial⟩ (fun t => rfl) rfl (fun t => rfl) (by intro o ho; simp at ho; rcases ho with rfl; rfl)))
end Go.Proofs.Ytfplalbognalkaa.Ab
/- Expressions: the value, by the specification. -/
namespace Go.Proofs.Ytfplalbognalkaa.Ab
open Go
end Go.Proofs.Ytfplalbognalkaa.Ab
/- Expressions: the value, by the program. -/
namespace Go.Proofs.Ytfplalbognalkaa.Ab
open Go
/-- The stack's cells. -/
def dsOf (st : List V) : List D := (st.reverse.map vr).flatten.map D.e
theorem dsOf_cons (v : V) (st : List V) : dsOf (v :: st) = dsOf st ++ [D.bool v.1, D.int v.2] := by simp [dsOf]
theorem dsOf_len (st : List V) : (dsOf st).length = st.length * 2 := by
  induction st with
  | nil => rfl
  | cons v st ih => rw [dsOf_cons, List.length_append, ih]; simp; omega
theorem dsOf_ren (t : RF) (st : List V) : rens t (dsOf st) = dsOf st := rens_e t _
theorem dsOf_lt (m : Nat) (st : List V) : lts m (dsOf st) = true := lts_e m _
theorem fw_at {l : List (Int × Int)} {w : Int} (h : exOk l w = true) : ∀ k n : Nat, n + k = l.length → 0 ≤ fw w (l.take n) 0 ∧ ∀ o, l[n]? = some o → 0 ≤ takes o w ∧ takes o w ≤ fw w (l.take n) 0 := by
  intro k
  induction k with
  | zero =>
    intro n hn
    rw [exOk_fw] at h
    simp only [decide_eq_true_eq] at h
    refine ⟨by rw [show l.take n = l by rw [List.take_of_length_le (by omega)]]; omega, fun o ho => ?_⟩
    rw [List.getElem?_eq_none (by omega)] at ho; cases ho
  | succ k ih =>
    intro n hn
    obtain ⟨a, _⟩ := ih (n + 1) (by omega)
    have hlt : n < l.length := by omega
    have e2 : l.take (n + 1) = l.take n ++ [l[n]] := by rw [List.take_add_one]; simp [hlt]
    rw [e2, fw_snoc _ _ _ 0 (Int.le_refl _)] at a
    by_cases c1 : fw w (l.take n) 0 < 0
    · rw [if_pos c1] at a; omega
    rw [if_neg c1] at a
    by_cases c2 : takes l[n] w < 0 ∨ fw w (l.take n) 0 < takes l[n] w
    · rw [if_pos c2] at a; omega
    refine ⟨by omega, fun o ho => ?_⟩
    have : o = l[n] := by rw [List.getElem?_eq_getElem hlt] at ho; cases ho; rfl
    subst this
    omega
theorem step_leaf {row : List V} {o : Int × Int} (st : List V) (h : takes o row.length = 0) : step row o st = leafV o row :: st := by unfold step; rw [if_pos h]
theorem step_un {row : List V} {o : Int × Int} (b : V) (r : List V) (h : takes o row.length = 1) : step row o (b :: r) = unV o b :: r := by unfold step; rw [if_neg (by omega), if_pos h]
theorem step_bin {row : List V} {o : Int × Int} (a b : V) (r : List V) (h : takes o row.length = 2) : step row o (b :: a :: r) = binV o a b :: r := by unfold step; rw [if_neg (by omega), if_neg (by omega)]
theorem fw_le {w : Int} (l : List (Int × Int)) : ∀ h : Int, 0 ≤ h → fw w l h ≤ h + l.length := by
  induction l with
  | nil => intro h _; simp [fw]
  | cons o r ih =>
    intro h h0
    by_cases c : takes o w < 0 ∨ h < takes o w
    · have e : fw w (o :: r) h = -1 := if_pos c
      rw [e]; omega
    · have e : fw w (o :: r) h = fw w r (h + 1 - takes o w) := if_neg c
      have := ih (h + 1 - takes o w) (by omega)
      rw [e, List.length_cons]; omega
theorem drop_at {P : List D} {a b : D} {Q : List D} {n : Nat} (h : P.length = n) : ((P ++ a :: b :: Q).drop n).take 2 = [a, b] := by subst h; simp
theorem set_at {P Q : List D} {a b c d : D} {n : Nat} (h : P.length = n) : (P ++ a :: b :: Q).take n ++ [c, d] ++ (P ++ a :: b :: Q).drop (n + 2) = P ++ c :: d :: Q := by subst h; simp
end Go.Proofs.Ytfplalbognalkaa.Ab
/- The law of RowCmp. -/
namespace Go.Proofs.Ytfplalbognalkaa.Ab
open Go
end Go.Proofs.Ytfplalbognalkaa.Ab
/- The law of ExOk. -/
namespace Go.Proofs.Ytfplalbognalkaa.Ab
open Go
end Go.Proofs.Ytfplalbognalkaa.Ab
/- The law of EvalEx. -/
namespace Go.Proofs.Ytfplalbognalkaa.Ab
open Go
/-- What EvalEx answers. -/
def EvR (l : List (Int × Int)) (row : List V) (v : V) (b : Bool) : Prop := exOk l row.length = b ∧ (b = false → v = (true, 0)) ∧ (b = true → Seg l row 0 l.length v ∧ stk l row l.length = [v])
theorem evR_ex (l : List (Int × Int)) (row : List V) : ∃ v b, EvR l row v b := by
  cases h : exOk l row.length with
  | false => exact ⟨(true, 0), false, h, fun _ => rfl, fun h => by cases h⟩
  | true =>
    obtain ⟨v, h1, h2⟩ := ex_seg h
    exact ⟨v, true, h, fun h => by (cases h), fun _ => ⟨h1, h2⟩⟩
end Go.Proofs.Ytfplalbognalkaa.Ab
/- The law FnLogic: walked. -/
namespace Go.Proofs.Ytfplalbognalkaa.Ab
open Go
set_option maxRecDepth 100000 in
theorem ok56 (b : Bool) (v : Int) (b' : Bool) (v' : Int) : Plain Try.prog 56 [dVal b v, dVal b' v'] (.bool (decide (b = b' ∧ v = v'))) := okOf mixed p56 fun A P hA hP => (by
  cbv
  repeat' first | with_reducible rfl | with_reducible refine And.intro ?_ ?_ | ((with_reducible intro hcc); first | (cases hcc; done) | skip) | ((with_reducible show goC _ _ _ _ _ _ _ _); cbv) | ((with_reducible show goOps _ _ _ _ _); cbv) | ((with_reducible show okWr _ _ = _); rfl) | ((with_reducible refine hA.fin_pl _ _ _ ?_); cbv) | ((with_reducible refine hA.gb0 true _ ?_); cbv) | ((with_reducible refine hA.gb0 false _ ?_); cbv) | ((with_reducible refine hA.gb _ _ fun vb hvb => ?_); cbv) | (simp only [hA.natLit, hA.natOf, hA.natCast]; cbv)
  all_goals try simp only [hA.add, hA.sub, hA.mul, hA.neg, hA.div, hA.mod, hA.mn, hA.mx, hA.eq, hA.lt, hA.le, hA.nat, hA.R, hA.lep, hA.ltp, hA.seq, inR, n_cast, Int.ofNat_eq_natCast, Option.getD_some, Option.getD_none] at *
  all_goals (cases b <;> cases b' <;> by_cases h : v = v' <;> simp_all))
theorem ok56t {x y : V} (h : x = y) : Plain Try.prog 56 [dVal x.1 x.2, dVal y.1 y.2] (.bool true) := by
  have := ok56 x.1 x.2 y.1 y.2
  rw [decide_eq_true (by rw [h]; exact ⟨rfl, rfl⟩)] at this
  exact this
theorem plain_v {fn : FuncId} {args : List D} {v : V} {k : Int} (h : Plain Try.prog fn args (ofT k)) (e : v = triV k) : Plain Try.prog fn args (dVal v.1 v.2) := by rw [e]; exact h
/-- The opposite of a value. -/
def nv (a : V) : V := (a.1, if a.1 = false ∧ a.2 = 0 then 1 else 0)
theorem nv_tr (a : V) : nv a = triV (2 - tr a.1 a.2) := by
  obtain ⟨b, v⟩ := a
  cases b with
  | true => simp [nv, tr, triV]
  | false => by_cases h : v = 0 <;> simp [nv, tr, triV, h]
theorem tr_tri {k : Int} (h : k = 0 ∨ k = 1 ∨ k = 2) : tr (triV k).1 (triV k).2 = k := by rcases h with rfl | rfl | rfl <;> rfl
theorem tr_in (b : Bool) (v : Int) : tr b v = 0 ∨ tr b v = 1 ∨ tr b v = 2 := by unfold tr; cases b <;> simp; by_cases h : v = 0 <;> simp [h]
theorem cm_in (op : Int) (b : Bool) (v : Int) (b' : Bool) (v' : Int) : cm op b v b' v' = 0 ∨ cm op b v b' v' = 1 ∨ cm op b v b' v' = 2 := by unfold cm; grind
theorem min_in {a b : Int} (ha : a = 0 ∨ a = 1 ∨ a = 2) (hb : b = 0 ∨ b = 1 ∨ b = 2) : min a b = 0 ∨ min a b = 1 ∨ min a b = 2 := by omega
theorem logic1 (a1 : Bool) (a2 : Int) (b1 : Bool) (b2 : Int) {c na nb : V} (hc : c = triV (min (tr a1 a2) (tr b1 b2))) (hna : na = nv (a1, a2)) (hnb : nb = nv (b1, b2)) : nv c = triV (max (tr na.1 na.2) (tr nb.1 nb.2)) := by
  have ha := tr_in a1 a2
  have hb := tr_in b1 b2
  have hm := min_in ha hb
  rw [nv_tr, hc, tr_tri hm, hna, hnb, nv_tr, nv_tr, tr_tri (show 2 - tr a1 a2 = 0 ∨ 2 - tr a1 a2 = 1 ∨ 2 - tr a1 a2 = 2 by omega), tr_tri (show 2 - tr b1 b2 = 0 ∨ 2 - tr b1 b2 = 1 ∨ 2 - tr b1 b2 = 2 by omega)]
  congr 1
  omega
theorem logic2 (op op' : Int) (a1 : Bool) (a2 : Int) (b1 : Bool) (b2 : Int) (h : (op = 3 ∧ op' = 6) ∨ (op = 1 ∧ op' = 2)) {c : V} (hc : c = triV (cm op a1 a2 b1 b2)) : nv c = triV (cm op' a1 a2 b1 b2) := by
  rw [nv_tr, hc, tr_tri (cm_in _ _ _ _ _)]
  congr 1
  unfold cm hol
  rcases h with ⟨rfl, rfl⟩ | ⟨rfl, rfl⟩ <;> grind
theorem logic3 (a1 : Bool) (a2 : Int) (b1 : Bool) (b2 : Int) {c d : V} (hc : c = triV (cm 3 a1 a2 b1 b2)) (hd : d = triV (cm 1 a1 a2 b1 b2)) : triV (max (tr c.1 c.2) (tr d.1 d.2)) = triV (cm 4 a1 a2 b1 b2) := by
  rw [hc, hd, tr_tri (cm_in _ _ _ _ _), tr_tri (cm_in _ _ _ _ _)]
  congr 1
  unfold cm hol
  grind
theorem stk_pre {l : List (Int × Int)} {row : List V} {o : Int × Int} : ∀ n, n ≤ l.length → stk (l ++ [o]) row n = stk l row n
  | 0, _ => rfl
  | n + 1, h => by
    rw [stk, stk, stk_pre n (by omega)]
    congr 1
    simp [List.getD, List.getElem?_append_left (show n < l.length by omega)]
theorem logic4 {l : List (Int × Int)} {row : List V} {v : V} (h : EvR l row v true) (hl : l.length < 5000) : EvR (l ++ [(7, 0)]) row (nv v) true := by
  obtain ⟨h1, _, h3⟩ := h
  obtain ⟨_, h5⟩ := h3 rfl
  have hok : exOk (l ++ [(7, 0)]) row.length = true := by
    rw [exOk_fw] at h1 ⊢
    simp only [decide_eq_true_eq] at h1 ⊢
    refine ⟨by simp; omega, h1.2.1, ?_⟩
    rw [fw_snoc _ _ _ 0 (Int.le_refl _), h1.2.2]
    rfl
  obtain ⟨u, g1, g2⟩ := ex_seg hok
  have e : stk (l ++ [(7, 0)]) row (l ++ [(7, 0)]).length = [nv v] := by
    rw [show (l ++ [((7 : Int), (0 : Int))]).length = l.length + 1 by simp, stk, stk_pre l.length (Nat.le_refl _), h5]
    simp [List.getD]
    rfl
  have : u = nv v := by rw [e] at g2; simpa using g2.symm
  subst this
  exact ⟨hok, (fun h => by cases h), fun _ => ⟨g1, g2⟩⟩
end Go.Proofs.Ytfplalbognalkaa.Ab
/- Rows drawn, counted, held against each other. -/
namespace Go.Proofs.Ytfplalbognalkaa.Ab
open Go
theorem len3 {l : List Row} {a b : Row} (h : l.length ≤ 900) (hl : ∀ r ∈ l, r.length ≤ 1000) (ha : a.length ≤ 1000) (hb : b.length ≤ 1000) : (l ++ [[], a, clR b]).length ≤ 1000 ∧ ∀ r ∈ l ++ [[], a, clR b], r.length ≤ 1000 := by
  refine ⟨by simp; omega, fun r hr => ?_⟩
  simp only [List.mem_append, List.mem_cons, List.not_mem_nil, or_false] at hr
  rcases hr with hr | hr | hr | hr
  · exact hl r hr
  · rw [hr]; simp
  · rw [hr]; exact ha
  · rw [hr, clR, List.length_map]; exact hb
set_option maxRecDepth 100000 in
set_option maxHeartbeats 1000000 in
theorem ok10 {es : List (List E)} (hb : ∃ l : List UInt8, es = bytesE l) : ∃ (l : List Row) (x : List (List E)), x = l.map rsr ∧ (l.length ≤ 1000 ∧ ∀ r ∈ l, r.length ≤ 1000) ∧ Plain Try.prog 10 [.e (.sl es)] (.e (.sl x)) := by
  suffices H : ∃ l : List Row, (l.length ≤ 1000 ∧ ∀ r ∈ l, r.length ≤ 1000) ∧ Plain Try.prog 10 [.e (.sl es)] (.e (.sl (l.map rsr))) by
    obtain ⟨l, h1, h2⟩ := H
    exact ⟨l, _, rfl, h1, h2⟩
  refine okEx mixed (fun l : List Row => l.length ≤ 1000 ∧ ∀ r ∈ l, r.length ≤ 1000) (fun l => .e (.sl (l.map rsr))) p10 ⟨[], by simp⟩ fun A P hA hP => ?_
  have fin : ∀ (l : List Row) (j : Nat) (x : List (List E)) (hp : List O), x = l.map rsr → (l.length ≤ 1000 ∧ ∀ r ∈ l, r.length ≤ 1000) → ∃ l : List Row, (l.length ≤ 1000 ∧ ∀ r ∈ l, r.length ≤ 1000) ∧ A.fin hp (.own j x) (.e (.sl (l.map rsr))) := fun l j x hp hx hl =>
    ⟨l, hl, hA.fin_pl _ _ _ (by rw [← hx]; rfl)⟩
  cbv
  repeat' first | with_reducible rfl | (simp only [he8]; cbv) | (simp only [he3]; cbv) | with_reducible refine And.intro ?_ ?_ | ((with_reducible intro hcc); first | (cases hcc; done) | skip) | ((with_reducible show goC _ _ _ _ _ _ _ _); cbv) | ((with_reducible show goOps _ _ _ _ _); cbv) | ((with_reducible show okWr _ _ = _); rfl) | ((with_reducible show A.call _ _ _ _ _ 47 _ _ _); obtain ⟨es', hR, hc⟩ := ok47 hb; refine callK_pr hA hP [] (by rfl) (by exact trivial) (Wks.refl _) ?_ (fun _ _ => hc) hc.side; cbv) | ((with_reducible show A.call _ _ _ _ _ 48 _ _ _); obtain ⟨⟨v, q'⟩, ⟨⟨⟨hv0, hv1⟩, hR⟩, hq⟩, hc⟩ := ok48b hR; have hq := hq (by omega); have hes := hR.le; have hq0 := hR.p0; obtain ⟨e3, he3⟩ : ∃ e3, A.eq (A.mod v 3) 2 = e3 := ⟨_, rfl⟩; cases e3 <;> (refine callK_pr hA hP [0] (by rfl) (by exact ⟨rfl, trivial⟩) (Wks.refl _) ?_ (fun _ _ => hc) hc.side; cbv)) | ((with_reducible show A.call _ _ _ _ _ 49 _ _ _); obtain ⟨lf, hlf⟩ : ∃ lf : Int, lf = es'.length - q' := ⟨_, rfl⟩; have hc := ok49 hR hlf; obtain ⟨e8, he8⟩ : ∃ e8, A.lt 200 (A.add (A.mod v 5) (A.div lf 4)) = e8 := ⟨_, rfl⟩; cases e8 <;> (refine callK_pr hA hP [0] (by rfl) (by exact ⟨rfl, trivial⟩) (Wks.refl _) ?_ (fun _ _ => hc) hc.side; cbv)) | ((with_reducible show A.call _ _ _ _ _ 50 _ _ _); obtain ⟨l, x, m6, q6, hx, hm6, ⟨hl, hlr, hR⟩, hc⟩ := ok50 hR (n := 200) (w := A.add 1 (A.mod (A.div v 5) 3)) (by omega) (by rw [hA.add, hA.mod]; omega); refine callK_pr hA hP [0] (by rfl) (by exact ⟨rfl, trivial⟩) (Wks.refl _) ?_ (fun _ _ => hc) hc.side; cbv) | ((with_reducible show A.call _ _ _ _ _ 50 _ _ _); obtain ⟨l, x, m6, q6, hx, hm6, ⟨hl, hlr, hR⟩, hc⟩ := ok50 hR (n := A.add (A.mod v 5) (A.div lf 4)) (w := A.add 1 (A.mod (A.div v 5) 3)) (by rw [hA.lt] at he8; have := of_decide_eq_false he8; omega) (by rw [hA.add, hA.mod]; omega); refine callK_pr hA hP [0] (by rfl) (by exact ⟨rfl, trivial⟩) (Wks.refl _) ?_ (fun _ _ => hc) hc.side; cbv) | ((with_reducible show A.call _ _ _ _ _ 51 _ _ _); obtain ⟨l7, x7, q7, hx7, hl7, hR, hc⟩ := ok51k hR (n := 1) (by omega); refine callK_pr hA hP [0] (by rfl) (by exact ⟨rfl, trivial⟩) (Wks.refl _) ?_ (fun _ _ => hc) hc.side; cbv) | ((with_reducible refine hA.row x _ _ ?_); have hin : (0 : Int) ≤ 0 ∧ (0 : Int) < x.length := (by have q9 := hvb.symm.trans (by assumption : vb = true); simp only [hA.lt] at q9; have := of_decide_eq_true q9; have hxl : x.length = l.length := (by rw [hx]; simp); simp only [n_cast] at *; omega); obtain ⟨r1, e1, q1⟩ := row_at hx hin; obtain ⟨x1, hx1⟩ : ∃ x, x = r1.map vr := ⟨_, rfl⟩; have e1 : x.getD (0 : Int).toNat [] = [E.sl x1] := e1.trans (by rw [hx1]); have hr1 := hlr r1 (List.mem_of_getElem? q1); refine ⟨hin, fun row hrow => ?_⟩; have hrow := hrow.trans e1; subst hrow; cbv) | ((with_reducible show A.call _ _ _ _ _ 52 _ _ _); obtain ⟨x2, hx2⟩ : ∃ y, y = (clR r1).map vr := ⟨_, rfl⟩; have h78 := ok52 r1 x1 hx1 (by rw [hx1, List.length_map]; omega); rw [← hx2] at h78; refine callK_eq hA hP ?_ ?_ ?_ (Wks.refl _) (fun _ _ => h78); exact rfl; exact rfl; cbv) | ((with_reducible refine hA.fin_pl _ _ _ ?_); cbv) | ((with_reducible refine hA.off _ _ _ _ fun b hb => ?_); cbv) | ((with_reducible refine hA.app _ _ _ _ _ ⟨?_, fun zs m hzs hm => ?_⟩); rotate_left; cbv) | ((with_reducible refine hA.app0 _ _ _ ⟨?_, fun m hm => ?_⟩); rotate_left; cbv) | ((with_reducible refine hA.alt _ _ (Or.inl ?_)); cbv) | ((with_reducible refine hA.appv _ _ _ _ _ _ ⟨?_, fun bb m ds hbb hm hds => ?_⟩); rotate_left; cbv) | ((with_reducible refine hA.vcut _ _ _ _ ⟨?_, fun cs hcs => ?_⟩); rotate_left; cbv) | ((with_reducible refine hA.appw _ _ _ _ _ _ _ ⟨?_, fun bb m ds hbb hm hds => ?_⟩); rotate_left; cbv) | ((with_reducible refine hA.sapp _ _ _ ⟨?_, fun sl hsl => ?_⟩); rotate_left; cbv) | ((with_reducible refine hA.gb0 true _ ?_); cbv) | ((with_reducible refine hA.gb0 false _ ?_); cbv) | ((with_reducible refine hA.gb _ _ fun vb hvb => ?_); cbv) | (simp only [hA.natLit, hA.natOf, hA.natCast]; cbv)
  all_goals try simp only [hA.add, hA.sub, hA.mul, hA.neg, hA.div, hA.mod, hA.mn, hA.mx, hA.eq, hA.lt, hA.le, hA.nat, hA.R, hA.lep, hA.ltp, hA.seq, inR, n_cast, Int.ofNat_eq_natCast, Option.getD_some, Option.getD_none] at *
  all_goals first
    | omega
    | exact fin l _ x _ hx ⟨by omega, hlr⟩
    | (simp only [allLen]; exact ⟨rfl, rfl, rfl, trivial⟩)
    | (rw [hm6]; done)
    | (have hxl : x.length = l.length := (by rw [hx]; simp); simp only [List.length_cons, List.length_nil]; omega)
    | exact fin (l ++ [[], l7, clR r1]) _ zs _ (by rw [hzs, hx, hx7, hx2]; simp) (len3 (by omega) hlr (by omega) hr1)
    | (trace_state; fail)
end Go.Proofs.Ytfplalbognalkaa.Ab
/- Rows counted and held against each other; the law of sorting. -/
namespace Go.Proofs.Ytfplalbognalkaa.Ab
open Go
def cntR (l : List Row) (y : Row) : Int := sumC (fun r => if rcmp r y = 0 then 1 else 0) l
theorem vcmp_clean (p q : V) : vcmp (clean p) q = vcmp p q := by
  obtain ⟨b, v⟩ := p
  obtain ⟨c, w⟩ := q
  unfold vcmp clean
  cases b <;> cases c <;> simp
theorem rcmp_clean : ∀ (l m : Row), rcmp (clR l) m = rcmp l m
  | [], [] => rfl
  | [], _ :: _ => rfl
  | _ :: _, [] => rfl
  | p :: l, q :: m => by
    have := rcmp_clean l m
    simp only [clR, List.map_cons, rcmp, vcmp_clean] at *
    rw [this]
theorem sumC_perm {α : Type} {c : α → Int} {a b : List α} (h : a.Perm b) : sumC c a = sumC c b := by
  induction h with
  | nil => rfl
  | cons x _ ih => simp only [sumC, ih]
  | swap x y l => simp only [sumC]; omega
  | trans _ _ ih1 ih2 => exact ih1.trans ih2
theorem cnt_sort (l : List Row) (y : Row) : cntR (sortR l) y = cntR l y := by
  rw [sortR, cntR, sumC_perm (srt_perm _)]
  induction l with
  | nil => rfl
  | cons a l ih => simp only [List.map_cons, sumC, cntR, rcmp_clean] at *; rw [ih]
theorem sortR_cl (l : List Row) : ∀ r ∈ l.map clR, Cl r := fun r hr => by
  obtain ⟨p, _, rfl⟩ := List.mem_map.1 hr
  exact clR_cl p
theorem sortR_perm {l m : List Row} (h : l.Perm m) : sortR l = sortR m := srt_eqp (sortR_cl l) (h.map clR)
theorem clR_id {r : Row} (h : Cl r) : clR r = r := by
  rw [clR]
  conv => rhs; rw [← List.map_id r]
  refine List.map_congr_left fun v hv => ?_
  obtain ⟨b, n⟩ := v
  have := h _ hv
  unfold clean
  cases b <;> simp_all
theorem sortR_sortR (l : List Row) : sortR (sortR l) = sortR l := by
  have h1 := srt_cl (sortR_cl l)
  have h2 : (sortR l).map clR = sortR l := by
    conv => rhs; rw [← List.map_id (sortR l)]
    exact List.map_congr_left fun r hr => clR_id (h1 r hr)
  rw [sortR, h2, sortR]
  exact srt_self h1 (srt_srt _)
set_option maxRecDepth 100000 in
theorem ok12 (l : List Row) (y : Row) (es ys : List (List E)) (he : es = l.map rsr) (hy : ys = y.map vr) : Plain Try.prog 12 [.e (.sl es), .e (.sl ys)] (.int (cntR l y)) := okOf mixed p12 fun A P hA hP => (by
  have hl1 : es.length = l.length := by rw [he]; simp
  obtain ⟨r, hr⟩ : ∃ r, r = cntR l y := ⟨_, rfl⟩
  rw [← hr]
  cbv
  repeat' first | with_reducible rfl | with_reducible refine And.intro ?_ ?_ | ((with_reducible intro hcc); first | (cases hcc; done) | skip) | ((with_reducible show goC _ _ _ _ _ _ _ _); cbv) | ((with_reducible show goOps _ _ _ _ _); cbv) | ((with_reducible show okWr _ _ = _); rfl) | ((with_reducible refine hA.fin_pl _ _ _ ?_); cbv) | ((with_reducible refine hA.len _ _ _ _ _ fun z hz hb => ?_); cbv) | ((with_reducible refine hA.off _ _ _ _ fun b hb => ?_); cbv) | ((with_reducible refine hA.sapp _ _ _ ⟨?_, fun sl hsl => ?_⟩); rotate_left; cbv) | (simp only [hA.natLit, hA.natOf, hA.natCast]; cbv)
  all_goals try simp only [hA.add, hA.sub, hA.mul, hA.neg, hA.div, hA.mod, hA.mn, hA.mx, hA.eq, hA.lt, hA.le, hA.nat, hA.R, hA.lep, hA.ltp, hA.seq, inR, n_cast, Int.ofNat_eq_natCast, Option.getD_some, Option.getD_none] at *
  refine hA.loopI (fun m s => ∃ (i n : Int), 0 ≤ i ∧ m + i = es.length ∧ n ≤ i ∧ 0 ≤ n ∧ r = n + cntR (l.drop i.toNat) y ∧ s = ⟨[(6, .int i), (5, .int n), (0, .e (.sl es)), (1, .e (.sl ys))], []⟩) es.length _
    (Weak.keep (env' := [(6, .int 0), (5, .int 0), (0, .e (.sl es)), (1, .e (.sl ys))]) ⟨rfl, rfl, rfl, rfl, trivial⟩) ⟨0, 0, by omega, by omega, by omega, by omega, by rw [hr]; simp, rfl⟩ ?_
  rintro m s K ⟨i, n, h0, h1, h2, h3, h4, rfl⟩ hK
  by_cases hin : (0 : Int) ≤ i ∧ i < es.length
  · obtain ⟨r1, e1, q1⟩ := row_at he hin
    obtain ⟨x1, hx1⟩ : ∃ x, x = r1.map vr := ⟨_, rfl⟩
    have e1 : es.getD i.toNat [] = [E.sl x1] := e1.trans (by rw [hx1])
    obtain ⟨c, hc⟩ : ∃ c, c = rcmp r1 y := ⟨_, rfl⟩
    have h26 : Plain Try.prog 14 [.e (.sl x1), .e (.sl ys)] (.int c) := by rw [hc]; exact ok14 r1 y x1 ys hx1 hy
    rw [cntR, sumC_drop q1, ← hc] at h4
    have hK2 : ∀ (n' : Int) (env : List (Nat × D)), i < es.length → n' = n + (if c = 0 then 1 else 0) → subL [(6, .int (i + 1)), (5, .int n'), (0, .e (.sl es)), (1, .e (.sl ys))] env → K ⟨env, []⟩ := fun n' env g1 g2 g3 =>
      hK _ (m - 1) _ (by omega) (Weak.keep g3) ⟨i + 1, n', by omega, by omega, by split at g2 <;> omega, by split at g2 <;> omega, by rw [show (i + 1).toNat = i.toNat + 1 by omega, cntR]; omega, rfl⟩
    clear hK h4 hc hr
    cbv
    repeat' first | with_reducible rfl | with_reducible refine And.intro ?_ ?_ | ((with_reducible intro hcc); first | (cases hcc; done) | skip) | ((with_reducible show goC _ _ _ _ _ _ _ _); cbv) | ((with_reducible show goOps _ _ _ _ _); cbv) | ((with_reducible show okWr _ _ = _); rfl) | ((with_reducible refine callK_eq hA hP ?_ ?_ ?_ (Wks.refl _) (fun _ _ => h26)); exact rfl; exact rfl; cbv) | ((with_reducible refine hA.row es _ _ ⟨hin, fun row hrow => ?_⟩); rw [e1] at hrow; subst hrow; cbv) | ((with_reducible refine hA.fin_pl _ _ _ ?_); cbv) | ((with_reducible refine hA.len _ _ _ _ _ fun z hz hb => ?_); cbv) | ((with_reducible refine hA.off _ _ _ _ fun b hb => ?_); cbv) | ((with_reducible refine hA.sapp _ _ _ ⟨?_, fun sl hsl => ?_⟩); rotate_left; cbv) | (simp only [hA.natLit, hA.natOf, hA.natCast]; cbv)
    all_goals try simp only [hA.add, hA.sub, hA.mul, hA.neg, hA.div, hA.mod, hA.mn, hA.mx, hA.eq, hA.lt, hA.le, hA.nat, hA.R, hA.lep, hA.ltp, hA.seq, inR, n_cast, Int.ofNat_eq_natCast, Option.getD_some, Option.getD_none] at *
    all_goals first
      | omega
      | exact hK2 _ _ hin.2 (by rw [if_pos (of_decide_eq_true (by assumption : decide (c = 0) = true))]) ⟨rfl, rfl, rfl, rfl, trivial⟩
      | exact hK2 n _ hin.2 (by rw [if_neg (of_decide_eq_false (by assumption : decide (c = 0) = false))]; omega) ⟨rfl, rfl, rfl, rfl, trivial⟩
      | (clear hK2; simp at *; omega)
      | (trace_state; fail)
  · have hd : l.drop i.toNat = [] := by rw [List.drop_eq_nil_iff]; omega
    rw [hd] at h4
    have h5 : r = n := by rw [h4]; simp [cntR, sumC]
    clear hK h4 hr
    cbv
    repeat' first | with_reducible rfl | with_reducible refine And.intro ?_ ?_ | ((with_reducible intro hcc); first | (cases hcc; done) | skip) | ((with_reducible show goC _ _ _ _ _ _ _ _); cbv) | ((with_reducible show goOps _ _ _ _ _); cbv) | ((with_reducible show okWr _ _ = _); rfl) | (exfalso; simp only [hA.lt, hA.sub, decide_eq_true_eq, decide_eq_false_iff_not, n_cast] at *; omega) | ((with_reducible refine hA.fin_pl _ _ _ ?_); cbv) | ((with_reducible refine hA.len _ _ _ _ _ fun z hz hb => ?_); cbv) | ((with_reducible refine hA.off _ _ _ _ fun b hb => ?_); cbv) | ((with_reducible refine hA.sapp _ _ _ ⟨?_, fun sl hsl => ?_⟩); rotate_left; cbv) | (simp only [hA.natLit, hA.natOf, hA.natCast]; cbv)
    all_goals try simp only [hA.add, hA.sub, hA.mul, hA.neg, hA.div, hA.mod, hA.mn, hA.mx, hA.eq, hA.lt, hA.le, hA.nat, hA.R, hA.lep, hA.ltp, hA.seq, inR, n_cast, Int.ofNat_eq_natCast, Option.getD_some, Option.getD_none] at *
    all_goals first
      | (rw [h5])
      | omega
      | (trace_state; fail))
set_option maxRecDepth 100000 in
set_option maxHeartbeats 1000000 in
theorem ok15 (l : List Row) (es : List (List E)) (he : es = l.map rsr) : Plain Try.prog 15 [.e (.sl es), .e (.sl es)] (.bool true) := okOf mixed p15 fun A P hA hP => (by
  have hl1 : es.length = l.length := by rw [he]; simp
  cbv
  repeat' first | with_reducible rfl | with_reducible refine And.intro ?_ ?_ | ((with_reducible intro hcc); first | (cases hcc; done) | skip) | ((with_reducible show goC _ _ _ _ _ _ _ _); cbv) | ((with_reducible show goOps _ _ _ _ _); cbv) | ((with_reducible show okWr _ _ = _); rfl) | ((with_reducible refine hA.fin_pl _ _ _ ?_); cbv) | ((with_reducible refine hA.len _ _ _ _ _ fun z hz hb => ?_); cbv) | ((with_reducible refine hA.off _ _ _ _ fun b hb => ?_); cbv) | ((with_reducible refine hA.sapp _ _ _ ⟨?_, fun sl hsl => ?_⟩); rotate_left; cbv) | (simp only [hA.natLit, hA.natOf, hA.natCast]; cbv)
  all_goals try simp only [hA.add, hA.sub, hA.mul, hA.neg, hA.div, hA.mod, hA.mn, hA.mx, hA.eq, hA.lt, hA.le, hA.nat, hA.R, hA.lep, hA.ltp, hA.seq, inR, n_cast, Int.ofNat_eq_natCast, Option.getD_some, Option.getD_none] at *
  · exfalso; have q := (by assumption : (!decide _) = true); simp at q; omega
  · refine hA.loopI (fun m s => ∃ (i : Int), 0 ≤ i ∧ m + i = es.length ∧ s = ⟨[(5, .int i), (4, .bool false), (0, .e (.sl es)), (1, .e (.sl es))], []⟩) es.length _
      (Weak.keep (env' := [(5, .int 0), (4, .bool false), (0, .e (.sl es)), (1, .e (.sl es))]) ⟨rfl, rfl, rfl, rfl, trivial⟩) ⟨0, by omega, by omega, rfl⟩ ?_
    rintro m s K ⟨i, h0, h1, rfl⟩ hK
    by_cases hin : (0 : Int) ≤ i ∧ i < es.length
    · obtain ⟨r1, e1, q1⟩ := row_at he hin
      obtain ⟨x1, hx1⟩ : ∃ x, x = r1.map vr := ⟨_, rfl⟩
      have e1 : es.getD i.toNat [] = [E.sl x1] := e1.trans (by rw [hx1])
      have hK2 : ∀ (env : List (Nat × D)), i < es.length → subL [(5, .int (i + 1)), (4, .bool false), (0, .e (.sl es)), (1, .e (.sl es))] env → K ⟨env, []⟩ := fun env g1 g3 =>
        hK _ (m - 1) _ (by omega) (Weak.keep g3) ⟨i + 1, by omega, by omega, rfl⟩
      clear hK
      cbv
      repeat' first | with_reducible rfl | with_reducible refine And.intro ?_ ?_ | ((with_reducible intro hcc); first | (cases hcc; done) | skip) | ((with_reducible show goC _ _ _ _ _ _ _ _); cbv) | ((with_reducible show goOps _ _ _ _ _); cbv) | ((with_reducible show okWr _ _ = _); rfl) | ((with_reducible refine hA.row es _ _ ⟨hin, fun row hrow => ?_⟩); rw [e1] at hrow; subst hrow; cbv) | ((with_reducible refine hA.fin_pl _ _ _ ?_); cbv) | ((with_reducible refine hA.len _ _ _ _ _ fun z hz hb => ?_); cbv) | ((with_reducible refine hA.off _ _ _ _ fun b hb => ?_); cbv) | ((with_reducible refine hA.sapp _ _ _ ⟨?_, fun sl hsl => ?_⟩); rotate_left; cbv) | (simp only [hA.natLit, hA.natOf, hA.natCast]; cbv)
      all_goals try simp only [hA.add, hA.sub, hA.mul, hA.neg, hA.div, hA.mod, hA.mn, hA.mx, hA.eq, hA.lt, hA.le, hA.nat, hA.R, hA.lep, hA.ltp, hA.seq, inR, n_cast, Int.ofNat_eq_natCast, Option.getD_some, Option.getD_none] at *
      all_goals try (first | omega | (exfalso; have q := (by assumption : (!decide _) = true); simp at q; omega))
      refine hA.loopI (fun m s => ∃ (j : Int), 0 ≤ j ∧ m + j = x1.length ∧ s = ⟨[(6, .int j), (5, .int i), (4, .bool false), (0, .e (.sl es)), (1, .e (.sl es))], []⟩) x1.length _
        (Weak.keep (env' := [(6, .int 0), (5, .int i), (4, .bool false), (0, .e (.sl es)), (1, .e (.sl es))]) ⟨rfl, rfl, rfl, rfl, rfl, trivial⟩) ⟨0, by omega, by omega, rfl⟩ ?_
      rintro m2 s K2 ⟨j, j0, j1, rfl⟩ hK
      by_cases hjn : (0 : Int) ≤ j ∧ j < x1.length
      · obtain ⟨⟨b1, v1⟩, e2, q2⟩ := row_at hx1 hjn
        have h53 : Plain Try.prog 56 [dVal b1 v1, dVal b1 v1] (.bool true) := ok56t (x := (b1, v1)) rfl
        have hK3 : ∀ (env : List (Nat × D)), j < x1.length → subL [(6, .int (j + 1)), (5, .int i), (4, .bool false), (0, .e (.sl es)), (1, .e (.sl es))] env → K2 ⟨env, []⟩ := fun env g1 g3 =>
          hK _ (m2 - 1) _ (by omega) (Weak.keep g3) ⟨j + 1, by omega, by omega, rfl⟩
        clear hK hK2
        cbv
        repeat' first | with_reducible rfl | with_reducible refine And.intro ?_ ?_ | ((with_reducible intro hcc); first | (cases hcc; done) | skip) | ((with_reducible show goC _ _ _ _ _ _ _ _); cbv) | ((with_reducible show goOps _ _ _ _ _); cbv) | ((with_reducible show okWr _ _ = _); rfl) | ((with_reducible refine callK_eq hA hP ?_ ?_ ?_ (Wks.refl _) (fun _ _ => h53)); exact rfl; exact rfl; cbv) | ((with_reducible refine hA.row es _ _ ⟨hin, fun row hrow => ?_⟩); rw [e1] at hrow; subst hrow; cbv) | ((with_reducible refine hA.row x1 _ _ ⟨hjn, fun row hrow => ?_⟩); rw [e2] at hrow; subst hrow; cbv) | ((with_reducible refine hA.fin_pl _ _ _ ?_); cbv) | ((with_reducible refine hA.len _ _ _ _ _ fun z hz hb => ?_); cbv) | ((with_reducible refine hA.off _ _ _ _ fun b hb => ?_); cbv) | ((with_reducible refine hA.sapp _ _ _ ⟨?_, fun sl hsl => ?_⟩); rotate_left; cbv) | (simp only [hA.natLit, hA.natOf, hA.natCast]; cbv)
        all_goals try simp only [hA.add, hA.sub, hA.mul, hA.neg, hA.div, hA.mod, hA.mn, hA.mx, hA.eq, hA.lt, hA.le, hA.nat, hA.R, hA.lep, hA.ltp, hA.seq, inR, n_cast, Int.ofNat_eq_natCast, Option.getD_some, Option.getD_none] at *
        all_goals first
          | omega
          | exact hK3 _ hjn.2 ⟨rfl, rfl, rfl, rfl, rfl, trivial⟩
          | (clear hK3; simp at *; omega)
          | (trace_state; fail)
      · clear hK
        cbv
        repeat' first | with_reducible rfl | with_reducible refine And.intro ?_ ?_ | ((with_reducible intro hcc); first | (cases hcc; done) | skip) | ((with_reducible show goC _ _ _ _ _ _ _ _); cbv) | ((with_reducible show goOps _ _ _ _ _); cbv) | ((with_reducible show okWr _ _ = _); rfl) | (exfalso; simp only [hA.lt, hA.sub, decide_eq_true_eq, decide_eq_false_iff_not, n_cast] at *; omega) | ((with_reducible refine hA.row es _ _ ⟨hin, fun row hrow => ?_⟩); rw [e1] at hrow; subst hrow; cbv) | ((with_reducible refine hA.fin_pl _ _ _ ?_); cbv) | ((with_reducible refine hA.len _ _ _ _ _ fun z hz hb => ?_); cbv) | ((with_reducible refine hA.off _ _ _ _ fun b hb => ?_); cbv) | ((with_reducible refine hA.sapp _ _ _ ⟨?_, fun sl hsl => ?_⟩); rotate_left; cbv) | (simp only [hA.natLit, hA.natOf, hA.natCast]; cbv)
        all_goals try simp only [hA.add, hA.sub, hA.mul, hA.neg, hA.div, hA.mod, hA.mn, hA.mx, hA.eq, hA.lt, hA.le, hA.nat, hA.R, hA.lep, hA.ltp, hA.seq, inR, n_cast, Int.ofNat_eq_natCast, Option.getD_some, Option.getD_none] at *
        all_goals first
          | omega
          | exact hK2 _ hin.2 ⟨rfl, rfl, rfl, rfl, trivial⟩
          | (clear hK2; simp at *; omega)
          | (trace_state; fail)
    · clear hK
      cbv
      repeat' first | with_reducible rfl | with_reducible refine And.intro ?_ ?_ | ((with_reducible intro hcc); first | (cases hcc; done) | skip) | ((with_reducible show goC _ _ _ _ _ _ _ _); cbv) | ((with_reducible show goOps _ _ _ _ _); cbv) | ((with_reducible show okWr _ _ = _); rfl) | (exfalso; simp only [hA.lt, hA.sub, decide_eq_true_eq, decide_eq_false_iff_not, n_cast] at *; omega) | ((with_reducible refine hA.fin_pl _ _ _ ?_); cbv) | ((with_reducible refine hA.len _ _ _ _ _ fun z hz hb => ?_); cbv) | ((with_reducible refine hA.off _ _ _ _ fun b hb => ?_); cbv) | ((with_reducible refine hA.sapp _ _ _ ⟨?_, fun sl hsl => ?_⟩); rotate_left; cbv) | (simp only [hA.natLit, hA.natOf, hA.natCast]; cbv)
      all_goals try simp only [hA.add, hA.sub, hA.mul, hA.neg, hA.div, hA.mod, hA.mn, hA.mx, hA.eq, hA.lt, hA.le, hA.nat, hA.R, hA.lep, hA.ltp, hA.seq, inR, n_cast, Int.ofNat_eq_natCast, Option.getD_some, Option.getD_none] at *
      all_goals omega)
end Go.Proofs.Ytfplalbognalkaa.Ab
/- The law of sorting, walked. -/
namespace Go.Proofs.Ytfplalbognalkaa.Ab
open Go
theorem rdrop {l : List Row} {k : Nat} (h : k + 1 ≤ l.length) : l.drop k = l.getD k [] :: l.drop (k + 1) := by
  rw [List.drop_eq_getElem_cons (by omega)]
  simp [List.getD, show k < l.length by omega]
set_option maxRecDepth 100000 in
set_option maxHeartbeats 2000000 in
theorem ok3 (es : List (List E)) (hb : ∃ l : List UInt8, es = bytesE l) : Plain Try.prog 3 [.e (.sl es)] (.bool true) := okOf mixed p3 fun A P hA hP => (by
  obtain ⟨l, x, hx, ⟨hl, hlr⟩, h42⟩ := ok10 hb
  obtain ⟨s0, hs0⟩ : ∃ s, s = sortR l := ⟨_, rfl⟩
  obtain ⟨y, hy⟩ : ∃ y, y = s0.map rsr := ⟨_, rfl⟩
  have hsl : s0.length = l.length := by rw [hs0, sortR_len]
  have hxl : x.length = l.length := by rw [hx]; simp
  have hyl : y.length = l.length := by rw [hy]; simp [hsl]
  have hsm : ∀ r ∈ s0, r.length ≤ 1000 := fun r hr => by
    rw [hs0, sortR] at hr
    obtain ⟨p, hp, rfl⟩ := List.mem_map.1 ((srt_perm _).mem_iff.1 hr)
    rw [clR, List.length_map]; exact hlr p hp
  have h43 : Plain Try.prog 11 [.e (.sl x)] (.e (.sl y)) := by
    rw [hy, hs0]
    exact ok11 l x hx (by omega) fun r hr => by have := hlr r hr; omega
  have h43s : Plain Try.prog 11 [.e (.sl y)] (.e (.sl y)) := by
    have := ok11 s0 y hy (by omega) fun r hr => by have := hsm r hr; omega
    rw [hs0, sortR_sortR, ← hs0, ← hy] at this
    exact this
  have h45 : Plain Try.prog 15 [.e (.sl y), .e (.sl y)] (.bool true) := ok15 s0 y hy
  have hss : ∀ i j : Nat, i ≤ j → j < s0.length → rcmp (s0.getD i []) (s0.getD j []) ≤ 0 := fun i j h1 h2 => by
    refine srt_get ?_ h1 h2
    rw [hs0]; exact srt_srt _
  cbv
  repeat' first | with_reducible rfl | with_reducible refine And.intro ?_ ?_ | ((with_reducible intro hcc); first | (cases hcc; done) | skip) | ((with_reducible show goC _ _ _ _ _ _ _ _); cbv) | ((with_reducible show goOps _ _ _ _ _); cbv) | ((with_reducible show okWr _ _ = _); rfl) | ((with_reducible refine callK_eq hA hP ?_ ?_ ?_ (Wks.refl _) (fun _ _ => h42)); exact rfl; exact rfl; cbv) | ((with_reducible refine callK_eq hA hP ?_ ?_ ?_ (Wks.refl _) (fun _ _ => h43)); exact rfl; exact rfl; cbv) | ((with_reducible refine hA.fin_pl _ _ _ ?_); cbv) | ((with_reducible refine hA.len _ _ _ _ _ fun z hz hb => ?_); cbv) | ((with_reducible refine hA.off _ _ _ _ fun b hb => ?_); cbv) | ((with_reducible refine hA.app _ _ _ _ _ ⟨?_, fun zs m hzs hm => ?_⟩); rotate_left; cbv) | ((with_reducible refine hA.app0 _ _ _ ⟨?_, fun m hm => ?_⟩); rotate_left; cbv) | ((with_reducible refine hA.alt _ _ (Or.inl ?_)); cbv) | ((with_reducible refine hA.appv _ _ _ _ _ _ ⟨?_, fun bb m ds hbb hm hds => ?_⟩); rotate_left; cbv) | ((with_reducible refine hA.vcut _ _ _ _ ⟨?_, fun cs hcs => ?_⟩); rotate_left; cbv) | ((with_reducible refine hA.appw _ _ _ _ _ _ _ ⟨?_, fun bb m ds hbb hm hds => ?_⟩); rotate_left; cbv) | ((with_reducible refine hA.sapp _ _ _ ⟨?_, fun sl hsl => ?_⟩); rotate_left; cbv) | ((with_reducible refine hA.gb0 true _ ?_); cbv) | ((with_reducible refine hA.gb0 false _ ?_); cbv) | ((with_reducible refine hA.gb _ _ fun vb hvb => ?_); cbv) | (simp only [hA.natLit, hA.natOf, hA.natCast]; cbv)
  all_goals try simp only [hA.add, hA.sub, hA.mul, hA.neg, hA.div, hA.mod, hA.mn, hA.mx, hA.eq, hA.lt, hA.le, hA.nat, hA.R, hA.lep, hA.ltp, hA.seq, inR, n_cast, Int.ofNat_eq_natCast, Option.getD_some, Option.getD_none] at *
  · exfalso; have q := (by assumption : (!decide _) = true); simp at q; omega
  · refine hA.loopI (fun m s => ∃ (i : Int), 0 ≤ i ∧ m + i = x.length ∧ s = ⟨[(5, .int i), (4, .e (.sl y)), (3, .e (.sl x))], []⟩) x.length _
      (Weak.keep (env' := [(5, .int 0), (4, .e (.sl y)), (3, .e (.sl x))]) ⟨rfl, rfl, rfl, trivial⟩) ⟨0, by omega, by omega, rfl⟩ ?_
    rintro m s K ⟨i, h0, h1, rfl⟩ hK
    by_cases hin : (0 : Int) ≤ i ∧ i < x.length
    · have hin2 : (0 : Int) ≤ i ∧ i < y.length := by omega
      obtain ⟨r1, e1, q1⟩ := row_at hx hin
      obtain ⟨x1, hx1⟩ : ∃ x, x = r1.map vr := ⟨_, rfl⟩
      have e1 : x.getD i.toNat [] = [E.sl x1] := e1.trans (by rw [hx1])
      obtain ⟨r2, e2, q2⟩ := row_at hy hin2
      obtain ⟨x2, hx2⟩ : ∃ x, x = r2.map vr := ⟨_, rfl⟩
      have e2 : y.getD i.toNat [] = [E.sl x2] := e2.trans (by rw [hx2])
      obtain ⟨c, hc⟩ : ∃ c, c = cntR l r1 := ⟨_, rfl⟩
      have h44x : Plain Try.prog 12 [.e (.sl x), .e (.sl x1)] (.int c) := by rw [hc]; exact ok12 l r1 x x1 hx hx1
      have h44y : Plain Try.prog 12 [.e (.sl y), .e (.sl x1)] (.int c) := by rw [hc, ← cnt_sort, ← hs0]; exact ok12 s0 r1 y x1 hy hx1
      have hK2 : ∀ (env : List (Nat × D)), i < x.length → subL [(5, .int (i + 1)), (4, .e (.sl y)), (3, .e (.sl x))] env → K ⟨env, []⟩ := fun env g1 g3 =>
        hK _ (m - 1) _ (by omega) (Weak.keep g3) ⟨i + 1, by omega, by omega, rfl⟩
      have e9 : A.eq c c = true := by rw [hA.eq]; exact decide_eq_true rfl
      by_cases hi0 : 0 < i
      · have e8 : A.lt 0 i = true := by rw [hA.lt]; exact decide_eq_true hi0
        have hin3 : (0 : Int) ≤ i - 1 ∧ i - 1 < y.length := by omega
        obtain ⟨r3, e3, q3⟩ := row_at hy hin3
        obtain ⟨x3, hx3⟩ : ∃ x, x = r3.map vr := ⟨_, rfl⟩
        have e3 : y.getD (i - 1).toNat [] = [E.sl x3] := e3.trans (by rw [hx3])
        have hle : rcmp r3 r2 ≤ 0 := by
          have := hss (i - 1).toNat i.toNat (by omega) (by omega)
          simp only [List.getD, q3, q2] at this
          exact this
        obtain ⟨d, hd⟩ : ∃ d, d = rcmp r3 r2 := ⟨_, rfl⟩
        have h26 : Plain Try.prog 14 [.e (.sl x3), .e (.sl x2)] (.int d) := by rw [hd]; exact ok14 r3 r2 x3 x2 hx3 hx2
        have h28 : Plain Try.prog 13 [.e (.sl x3), .e (.sl x2)] (.int d) := by rw [hd]; exact ok13 r3 r2 x3 x2 hx3 hx2
        have e7 : A.lt 0 d = false := by rw [hA.lt]; exact decide_eq_false (by omega)
        obtain ⟨i1, hi1⟩ : ∃ j, j = A.sub i 1 := ⟨_, rfl⟩
        have hi2 : i1 = i - 1 := by rw [hi1, hA.sub]
        rw [← hi2] at e3 hin3
        clear hK hss hc hd hle hx hy hs0 h42 h43 h43s h45
        cbv
        repeat' first | with_reducible rfl | (simp only [← hi1]; cbv) | (simp only [e7]; cbv) | (simp only [e9]; cbv) | (simp only [e8]; cbv) | with_reducible refine And.intro ?_ ?_ | ((with_reducible intro hcc); first | (cases hcc; done) | skip) | ((with_reducible show goC _ _ _ _ _ _ _ _); cbv) | ((with_reducible show goOps _ _ _ _ _); cbv) | ((with_reducible show okWr _ _ = _); rfl) | ((with_reducible refine callK_eq hA hP ?_ ?_ ?_ (Wks.refl _) (fun _ _ => h44x)); exact rfl; exact rfl; cbv) | ((with_reducible refine callK_eq hA hP ?_ ?_ ?_ (Wks.refl _) (fun _ _ => h44y)); exact rfl; exact rfl; cbv) | ((with_reducible refine callK_eq hA hP ?_ ?_ ?_ (Wks.refl _) (fun _ _ => h26)); exact rfl; exact rfl; cbv) | ((with_reducible refine callK_eq hA hP ?_ ?_ ?_ (Wks.refl _) (fun _ _ => h28)); exact rfl; exact rfl; cbv) | ((with_reducible refine hA.row x _ _ ⟨hin, fun row hrow => ?_⟩); rw [e1] at hrow; subst hrow; cbv) | ((with_reducible refine hA.row y i _ ⟨hin2, fun row hrow => ?_⟩); rw [e2] at hrow; subst hrow; cbv) | ((with_reducible refine hA.row y i1 _ ⟨hin3, fun row hrow => ?_⟩); rw [e3] at hrow; subst hrow; cbv) | ((with_reducible refine hA.fin_pl _ _ _ ?_); cbv) | ((with_reducible refine hA.len _ _ _ _ _ fun z hz hb => ?_); cbv) | ((with_reducible refine hA.off _ _ _ _ fun b hb => ?_); cbv) | ((with_reducible refine hA.app _ _ _ _ _ ⟨?_, fun zs m hzs hm => ?_⟩); rotate_left; cbv) | ((with_reducible refine hA.app0 _ _ _ ⟨?_, fun m hm => ?_⟩); rotate_left; cbv) | ((with_reducible refine hA.alt _ _ (Or.inl ?_)); cbv) | ((with_reducible refine hA.appv _ _ _ _ _ _ ⟨?_, fun bb m ds hbb hm hds => ?_⟩); rotate_left; cbv) | ((with_reducible refine hA.vcut _ _ _ _ ⟨?_, fun cs hcs => ?_⟩); rotate_left; cbv) | ((with_reducible refine hA.appw _ _ _ _ _ _ _ ⟨?_, fun bb m ds hbb hm hds => ?_⟩); rotate_left; cbv) | ((with_reducible refine hA.sapp _ _ _ ⟨?_, fun sl hsl => ?_⟩); rotate_left; cbv) | ((with_reducible refine hA.gb0 true _ ?_); cbv) | ((with_reducible refine hA.gb0 false _ ?_); cbv) | ((with_reducible refine hA.gb _ _ fun vb hvb => ?_); cbv) | (simp only [hA.natLit, hA.natOf, hA.natCast]; cbv)
        all_goals try simp only [hA.add, hA.sub, hA.mul, hA.neg, hA.div, hA.mod, hA.mn, hA.mx, hA.eq, hA.lt, hA.le, hA.nat, hA.R, hA.lep, hA.ltp, hA.seq, inR, n_cast, Int.ofNat_eq_natCast, Option.getD_some, Option.getD_none] at *
        all_goals first
          | omega
          | exact hK2 _ hin.2 ⟨rfl, rfl, rfl, trivial⟩
          | (clear hK2; simp at *; omega)
          | (trace_state; fail)
      · have e8 : A.lt 0 i = false := by rw [hA.lt]; exact decide_eq_false hi0
        clear hK hss hc hx hy hs0 h42 h43 h43s h45
        cbv
        repeat' first | with_reducible rfl | (simp only [e9]; cbv) | (simp only [e8]; cbv) | with_reducible refine And.intro ?_ ?_ | ((with_reducible intro hcc); first | (cases hcc; done) | skip) | ((with_reducible show goC _ _ _ _ _ _ _ _); cbv) | ((with_reducible show goOps _ _ _ _ _); cbv) | ((with_reducible show okWr _ _ = _); rfl) | ((with_reducible refine callK_eq hA hP ?_ ?_ ?_ (Wks.refl _) (fun _ _ => h44x)); exact rfl; exact rfl; cbv) | ((with_reducible refine callK_eq hA hP ?_ ?_ ?_ (Wks.refl _) (fun _ _ => h44y)); exact rfl; exact rfl; cbv) | ((with_reducible refine hA.row x _ _ ⟨hin, fun row hrow => ?_⟩); rw [e1] at hrow; subst hrow; cbv) | ((with_reducible refine hA.row0 y _ _ fun p row => ?_); cbv) | ((with_reducible show A.call _ _ _ _ false _ _ _ _); refine callK_no hA (.int 0) ?_; cbv) | ((with_reducible refine hA.fin_pl _ _ _ ?_); cbv) | ((with_reducible refine hA.len _ _ _ _ _ fun z hz hb => ?_); cbv) | ((with_reducible refine hA.off _ _ _ _ fun b hb => ?_); cbv) | ((with_reducible refine hA.app _ _ _ _ _ ⟨?_, fun zs m hzs hm => ?_⟩); rotate_left; cbv) | ((with_reducible refine hA.app0 _ _ _ ⟨?_, fun m hm => ?_⟩); rotate_left; cbv) | ((with_reducible refine hA.alt _ _ (Or.inl ?_)); cbv) | ((with_reducible refine hA.appv _ _ _ _ _ _ ⟨?_, fun bb m ds hbb hm hds => ?_⟩); rotate_left; cbv) | ((with_reducible refine hA.vcut _ _ _ _ ⟨?_, fun cs hcs => ?_⟩); rotate_left; cbv) | ((with_reducible refine hA.appw _ _ _ _ _ _ _ ⟨?_, fun bb m ds hbb hm hds => ?_⟩); rotate_left; cbv) | ((with_reducible refine hA.sapp _ _ _ ⟨?_, fun sl hsl => ?_⟩); rotate_left; cbv) | ((with_reducible refine hA.gb0 true _ ?_); cbv) | ((with_reducible refine hA.gb0 false _ ?_); cbv) | ((with_reducible refine hA.gb _ _ fun vb hvb => ?_); cbv) | (simp only [hA.natLit, hA.natOf, hA.natCast]; cbv)
        all_goals try simp only [hA.add, hA.sub, hA.mul, hA.neg, hA.div, hA.mod, hA.mn, hA.mx, hA.eq, hA.lt, hA.le, hA.nat, hA.R, hA.lep, hA.ltp, hA.seq, inR, n_cast, Int.ofNat_eq_natCast, Option.getD_some, Option.getD_none] at *
        all_goals first
          | omega
          | exact hK2 _ hin.2 ⟨rfl, rfl, rfl, trivial⟩
          | (clear hK2; simp at *; omega)
          | (trace_state; fail)
    · clear hK hss
      cbv
      repeat' first | with_reducible rfl | with_reducible refine And.intro ?_ ?_ | ((with_reducible intro hcc); first | (cases hcc; done) | skip) | ((with_reducible show goC _ _ _ _ _ _ _ _); cbv) | ((with_reducible show goOps _ _ _ _ _); cbv) | ((with_reducible show okWr _ _ = _); rfl) | (exfalso; simp only [hA.lt, hA.sub, decide_eq_true_eq, decide_eq_false_iff_not, n_cast] at *; omega) | ((with_reducible refine hA.fin_pl _ _ _ ?_); cbv) | ((with_reducible refine hA.len _ _ _ _ _ fun z hz hb => ?_); cbv) | ((with_reducible refine hA.off _ _ _ _ fun b hb => ?_); cbv) | ((with_reducible refine hA.app _ _ _ _ _ ⟨?_, fun zs m hzs hm => ?_⟩); rotate_left; cbv) | ((with_reducible refine hA.app0 _ _ _ ⟨?_, fun m hm => ?_⟩); rotate_left; cbv) | ((with_reducible refine hA.alt _ _ (Or.inl ?_)); cbv) | ((with_reducible refine hA.appv _ _ _ _ _ _ ⟨?_, fun bb m ds hbb hm hds => ?_⟩); rotate_left; cbv) | ((with_reducible refine hA.vcut _ _ _ _ ⟨?_, fun cs hcs => ?_⟩); rotate_left; cbv) | ((with_reducible refine hA.appw _ _ _ _ _ _ _ ⟨?_, fun bb m ds hbb hm hds => ?_⟩); rotate_left; cbv) | ((with_reducible refine hA.sapp _ _ _ ⟨?_, fun sl hsl => ?_⟩); rotate_left; cbv) | ((with_reducible refine hA.gb0 true _ ?_); cbv) | ((with_reducible refine hA.gb0 false _ ?_); cbv) | ((with_reducible refine hA.gb _ _ fun vb hvb => ?_); cbv) | (simp only [hA.natLit, hA.natOf, hA.natCast]; cbv)
      all_goals try simp only [hA.add, hA.sub, hA.mul, hA.neg, hA.div, hA.mod, hA.mn, hA.mx, hA.eq, hA.lt, hA.le, hA.nat, hA.R, hA.lep, hA.ltp, hA.seq, inR, n_cast, Int.ofNat_eq_natCast, Option.getD_some, Option.getD_none] at *
      all_goals try omega
      refine hA.loopI (fun m s => ∃ (j : Int) (t : List (List E)), -1 ≤ j ∧ m = (j + 1).toNat ∧ j < x.length ∧ t = ((l.drop (j + 1).toNat).reverse).map rsr ∧ s = ⟨[(7, .int j), (6, .own 0 t), (4, .e (.sl y)), (3, .e (.sl x))], [.front t.length 1]⟩) x.length _
        ((Weak.zown 6 1 rfl).trans (Weak.keep (env' := [(7, .int _), (6, .own 0 []), (4, .e (.sl y)), (3, .e (.sl x))]) ⟨rfl, rfl, rfl, rfl, trivial⟩)) ⟨_, [], by omega, by omega, by omega, ?_, rfl⟩ ?_
      · rw [List.drop_eq_nil_of_le (by omega)]; rfl
      rintro m2 s K2 ⟨j, t, j0, j1, j2, ht, rfl⟩ hK
      obtain ⟨k, hk⟩ : ∃ k, k = t.length := ⟨_, rfl⟩
      have htl : t.length ≤ l.length := by rw [ht]; simp
      rw [← hk]
      by_cases hj : (0 : Int) ≤ j ∧ j < x.length
      · obtain ⟨r1, e1, q1⟩ := row_at hx hj
        obtain ⟨x1, hx1⟩ : ∃ x, x = r1.map vr := ⟨_, rfl⟩
        have e1 : x.getD j.toNat [] = [E.sl x1] := e1.trans (by rw [hx1])
        have hK3 : ∀ (zs : List (List E)) (m : Nat) (env : List (Nat × D)) (hp : List O), zs = t ++ [[E.sl x1]] → m = zs.length → hpF hp 0 = .front m 1 → subW [(7, .int (j - 1)), (6, .own 0 zs), (4, .e (.sl y)), (3, .e (.sl x))] env → K2 ⟨env, hp⟩ := fun zs m env hp g1 g2 g3 g4 =>
          hK _ (m2 - 1) _ (by omega) (Weak.ren (l0 := []) [0] (fun t => [(7, .int (j - 1)), (6, .own (t 0) zs), (4, .e (.sl y)), (3, .e (.sl x))]) (fun _ => [.front zs.length 1]) rfl g4 ⟨by rw [g3, g2], trivial⟩ ⟨fun t => rfl, rfl, fun t => rfl, by intro o ho; rw [List.mem_singleton] at ho; subst ho; rfl⟩)
            ⟨j - 1, zs, by omega, by omega, by omega, by
              have h3 : j.toNat < l.length := by omega
              have h4 : l.getD j.toNat [] = r1 := by simp only [List.getD, q1]; rfl
              rw [show (j - 1 + 1).toNat = j.toNat by omega, rdrop (by omega), h4, g1, ht, show (j + 1).toNat = j.toNat + 1 by omega, hx1]
              simp, rfl⟩
        clear hK
        cbv
        repeat' first | with_reducible rfl | with_reducible refine And.intro ?_ ?_ | ((with_reducible intro hcc); first | (cases hcc; done) | skip) | ((with_reducible show goC _ _ _ _ _ _ _ _); cbv) | ((with_reducible show goOps _ _ _ _ _); cbv) | ((with_reducible show okWr _ _ = _); rfl) | ((with_reducible refine hA.row x _ _ ⟨hj, fun row hrow => ?_⟩); rw [e1] at hrow; subst hrow; cbv) | ((with_reducible refine hA.fin_pl _ _ _ ?_); cbv) | ((with_reducible refine hA.len _ _ _ _ _ fun z hz hb => ?_); cbv) | ((with_reducible refine hA.off _ _ _ _ fun b hb => ?_); cbv) | ((with_reducible refine hA.app _ _ _ _ _ ⟨?_, fun zs m hzs hm => ?_⟩); rotate_left; cbv) | ((with_reducible refine hA.app0 _ _ _ ⟨?_, fun m hm => ?_⟩); rotate_left; cbv) | ((with_reducible refine hA.alt _ _ (Or.inl ?_)); cbv) | ((with_reducible refine hA.appv _ _ _ _ _ _ ⟨?_, fun bb m ds hbb hm hds => ?_⟩); rotate_left; cbv) | ((with_reducible refine hA.vcut _ _ _ _ ⟨?_, fun cs hcs => ?_⟩); rotate_left; cbv) | ((with_reducible refine hA.appw _ _ _ _ _ _ _ ⟨?_, fun bb m ds hbb hm hds => ?_⟩); rotate_left; cbv) | ((with_reducible refine hA.sapp _ _ _ ⟨?_, fun sl hsl => ?_⟩); rotate_left; cbv) | ((with_reducible refine hA.gb0 true _ ?_); cbv) | ((with_reducible refine hA.gb0 false _ ?_); cbv) | ((with_reducible refine hA.gb _ _ fun vb hvb => ?_); cbv) | (simp only [hA.natLit, hA.natOf, hA.natCast]; cbv)
        all_goals try simp only [hA.add, hA.sub, hA.mul, hA.neg, hA.div, hA.mod, hA.mn, hA.mx, hA.eq, hA.lt, hA.le, hA.nat, hA.R, hA.lep, hA.ltp, hA.seq, inR, n_cast, Int.ofNat_eq_natCast, Option.getD_some, Option.getD_none] at *
        all_goals first
          | omega
          | (rw [hk]; done)
          | exact ⟨rfl, trivial⟩
          | exact hK3 _ _ _ _ hzs hm rfl ⟨.inl rfl, .inl rfl, .inl rfl, .inl rfl, trivial⟩
          | (simp only [List.length_cons, List.length_nil]; omega)
          | (clear hK3; simp at *; omega)
          | (trace_state; fail)
      · have hj1 : j = -1 := by omega
        have e5 : A.le 0 j = false := by rw [hA.le]; exact decide_eq_false (by omega)
        have ht2 : t = (l.reverse).map rsr := by rw [ht, hj1]; rfl
        have h43t : Plain Try.prog 11 [.e (.sl t)] (.e (.sl y)) := by
          have := ok11 l.reverse t ht2 (by omega) fun r hr => by have := hlr r (by simpa using hr); omega
          rw [sortR_perm (List.reverse_perm l), ← hs0, ← hy] at this
          exact this
        clear hK ht
        cbv
        repeat' first | with_reducible rfl | (simp only [e5]; cbv) | with_reducible refine And.intro ?_ ?_ | ((with_reducible intro hcc); first | (cases hcc; done) | skip) | ((with_reducible show goC _ _ _ _ _ _ _ _); cbv) | ((with_reducible show goOps _ _ _ _ _); cbv) | ((with_reducible show okWr _ _ = _); rfl) | ((with_reducible refine callK_eq hA hP ?_ ?_ ?_ (Wks.refl _) (fun _ _ => h43s)); exact rfl; exact rfl; cbv) | ((with_reducible refine callK_eq hA hP ?_ ?_ ?_ (Wks.refl _) (fun _ _ => h45)); exact rfl; exact rfl; cbv) | ((with_reducible show A.call _ _ _ _ _ 11 _ _ _); refine callK_eq (args := [.e (.sl t)]) hA hP ?_ ?_ ?_ ⟨.inr rfl, trivial⟩ (fun _ _ => h43t); exact rfl; exact rfl; cbv) | ((with_reducible refine hA.fin_pl _ _ _ ?_); cbv) | ((with_reducible refine hA.len _ _ _ _ _ fun z hz hb => ?_); cbv) | ((with_reducible refine hA.off _ _ _ _ fun b hb => ?_); cbv) | ((with_reducible refine hA.app _ _ _ _ _ ⟨?_, fun zs m hzs hm => ?_⟩); rotate_left; cbv) | ((with_reducible refine hA.app0 _ _ _ ⟨?_, fun m hm => ?_⟩); rotate_left; cbv) | ((with_reducible refine hA.alt _ _ (Or.inl ?_)); cbv) | ((with_reducible refine hA.appv _ _ _ _ _ _ ⟨?_, fun bb m ds hbb hm hds => ?_⟩); rotate_left; cbv) | ((with_reducible refine hA.vcut _ _ _ _ ⟨?_, fun cs hcs => ?_⟩); rotate_left; cbv) | ((with_reducible refine hA.appw _ _ _ _ _ _ _ ⟨?_, fun bb m ds hbb hm hds => ?_⟩); rotate_left; cbv) | ((with_reducible refine hA.sapp _ _ _ ⟨?_, fun sl hsl => ?_⟩); rotate_left; cbv) | ((with_reducible refine hA.gb0 true _ ?_); cbv) | ((with_reducible refine hA.gb0 false _ ?_); cbv) | ((with_reducible refine hA.gb _ _ fun vb hvb => ?_); cbv) | (simp only [hA.natLit, hA.natOf, hA.natCast]; cbv)
        all_goals try simp only [hA.add, hA.sub, hA.mul, hA.neg, hA.div, hA.mod, hA.mn, hA.mx, hA.eq, hA.lt, hA.le, hA.nat, hA.R, hA.lep, hA.ltp, hA.seq, inR, n_cast, Int.ofNat_eq_natCast, Option.getD_some, Option.getD_none] at *
        all_goals first
          | omega
          | rfl
          | (trace_state; fail))
end Go.Proofs.Ytfplalbognalkaa.Ab
/- Arguments of any plain type, in the abstract view. -/
namespace Go.Proofs.Ytfplalbognalkaa.Ab
open Go Go.ChangeShapes Go.WideShapes Go.ChangeAt Go.RowKit
/-- What the cells of a value of a type read as. -/
def WT (P : Program) : Nat → TypeId → List E → Prop
  | 0, _, _ => False
  | n + 1, t, es => match P.underlying t with
    | some .bool => ∃ b, es = [.bool b]
    | some (.int k) => ∃ m, es = [.v (.int k m)] ∧ k.min ≤ m ∧ m ≤ k.max
    | some .string => ∃ s, es = [.v (.string s)] ∧ s.size ≤ maxN
    | some (.struct fs) => es.length = P.cellsOf t ∧ ∀ (i : Nat) f, fs[i]? = some f → WT P n f.type ((es.drop f.offset).take (P.cellsOf f.type))
    | some (.slice e) => ∃ rows, es = [.sl rows] ∧ rows.length ≤ maxN ∧ ∀ r ∈ rows, WT P n e r ∧ r.length = P.cellsOf e
    | _ => False
def laidAt (P : Program) : Nat → List Field → Option Nat
  | acc, [] => some acc
  | acc, f :: r => if f.offset = acc then laidAt P (acc + P.cellsOf f.type) r else none
/-- The types that are served. -/
def okT (P : Program) : Nat → TypeId → Bool
  | 0, _ => false
  | n + 1, t => match P.underlying t with
    | some .bool | some (.int _) | some .string => P.cellsOf t == 1
    | some (.struct fs) => fs.toList.all (fun f => okT P n f.type) && laidAt P 0 fs.toList == some (P.cellsOf t)
    | some (.slice e) => P.cellsOf t == 1 && okT P n e && decide (0 < P.bytesOf e) && decide (0 < P.cellsOf e)
    | _ => false
def RelE (W : World) (cs : List Value) (es : List E) : Prop := es.length = cs.length ∧ ∀ (j : Nat) c e, cs[j]? = some c → es[j]? = some e → RvE W (pubAll W).pub c e
theorem laidAt_le {P : Program} : ∀ (fs : List Field) (acc tot : Nat), laidAt P acc fs = some tot → acc ≤ tot
  | [], acc, tot, h => by simp [laidAt] at h; omega
  | f :: r, acc, tot, h => by
    simp only [laidAt] at h
    split at h
    · have := laidAt_le r _ _ h; omega
    · cases h
/-- The fields' readings, put together. -/
theorem fields_E {P : Program} {W : World} {n : Nat} {cs : List Value} : ∀ (fs : List Field) (acc tot : Nat), laidAt P acc fs = some tot → tot = cs.length →
    (∀ (i : Nat) f, fs[i]? = some f → ∃ es, WT P n f.type es ∧ RelE W ((cs.drop f.offset).take (P.cellsOf f.type)) es) →
    ∃ es, RelE W (cs.drop acc) es ∧ ∀ (i : Nat) f, fs[i]? = some f → WT P n f.type ((es.drop (f.offset - acc)).take (P.cellsOf f.type)) ∧ acc ≤ f.offset
  | [], acc, tot, h, ht, _ => by
    simp [laidAt] at h
    refine ⟨[], ⟨by simp; omega, fun j c e _ he => by simp at he⟩, fun i f hf => by simp at hf⟩
  | f :: r, acc, tot, h, ht, hf => by
    simp only [laidAt] at h
    split at h
    case isFalse => cases h
    rename_i ho
    have hle := laidAt_le r _ _ h
    obtain ⟨es, w1, l1, r1⟩ := hf 0 f rfl
    obtain ⟨es', ⟨l2, r2⟩, w2⟩ := fields_E r _ tot h ht fun i g hg => hf (i + 1) g (by simpa using hg)
    have hl1 : es.length = P.cellsOf f.type := by rw [l1, ho]; simp; omega
    refine ⟨es ++ es', ⟨?_, fun j c e hc he => ?_⟩, fun i g hg => ?_⟩
    · rw [List.length_append, l2, hl1]; simp; omega
    · rw [List.getElem?_drop] at hc
      by_cases hj : j < es.length
      · rw [List.getElem?_append_left hj] at he
        refine r1 j c e ?_ he
        rw [List.getElem?_take, if_pos (by omega), List.getElem?_drop, ho]; exact hc
      · rw [List.getElem?_append_right (by omega)] at he
        refine r2 (j - es.length) c e ?_ he
        rw [List.getElem?_drop, ← hc]
        congr 1; omega
    · cases i with
      | zero =>
        simp at hg; subst hg
        rw [ho, Nat.sub_self, List.drop_zero, ← hl1, List.take_left]
        exact ⟨w1, Nat.le_refl _⟩
      | succ i =>
        obtain ⟨a, b⟩ := w2 i g (by simpa using hg)
        refine ⟨?_, by omega⟩
        have : g.offset - acc = es.length + (g.offset - (acc + P.cellsOf f.type)) := by omega
        rw [this, ← List.drop_drop, List.drop_left]
        exact a
section
variable {H : Type} {enc : TypeId × Value → H} {P : Program} {W : World} {sp : Nat → Bool} {held : Bool}
theorem weightsEach_get : ∀ {ts : List TypeId} {ds : List (DataW H)} {i : Nat} {t : TypeId} {d : DataW H}, ts[i]? = some t → ds[i]? = some d → ∀ k ∈ d.weights P t, k ∈ DataW.weightsEach P ts ds
  | [], _, _, _, _, h, _, _, _ => by simp at h
  | _ :: _, [], _, _, _, _, h, _, _ => by simp at h
  | t :: ts, d :: ds, 0, t', d', h1, h2, k, hk => by
    simp at h1 h2; subst h1; subst h2
    simp [DataW.weightsEach, hk]
  | t :: ts, d :: ds, i + 1, t', d', h1, h2, k, hk => by
    simp only [DataW.weightsEach, List.mem_append]
    exact .inr (weightsEach_get (by simpa using h1) (by simpa using h2) k hk)
theorem weightsAll_get {e : TypeId} : ∀ {ds : List (DataW H)} {d : DataW H}, d ∈ ds → ∀ k ∈ d.weights P e, k ∈ DataW.weightsAll P e ds
  | [], _, h, _, _ => by cases h
  | d :: ds, d', h, k, hk => by
    simp only [DataW.weightsAll, List.mem_append]
    cases h with
    | head => exact .inl hk
    | tail _ h => exact .inr (weightsAll_get h k hk)
theorem list_of {α : Type} {Q : Nat → α → Prop} : ∀ (n : Nat), (∀ i, i < n → ∃ y, Q i y) → ∃ l : List α, l.length = n ∧ ∀ (i : Nat) y, l[i]? = some y → Q i y
  | 0, _ => ⟨[], rfl, fun i y h => by simp at h⟩
  | n + 1, h => by
    obtain ⟨l, hl, hq⟩ := list_of n fun i hi => h i (by omega)
    obtain ⟨y, hy⟩ := h n (by omega)
    refine ⟨l ++ [y], by simp [hl], fun i z hz => ?_⟩
    by_cases hi : i < l.length
    · rw [List.getElem?_append_left hi] at hz; exact hq i z hz
    · rw [List.getElem?_append_right (by omega)] at hz
      have : i - l.length = 0 := by
        rcases Nat.eq_zero_or_pos (i - l.length) with h0 | h0
        · exact h0
        · rw [List.getElem?_eq_none (by simp; omega)] at hz; cases hz
      rw [this] at hz
      simp at hz
      subst hz
      have : i = n := by omega
      rw [this]; exact hy
theorem trod_E : ∀ (n fuel : Nat) (t : TypeId) (cs : List Value) (x : DataW H × List MemPlace), okT P n t = true → DataW.trod enc P W 0 sp held fuel t cs = some x → (∀ k ∈ x.1.weights P t, k ≤ reachBytes) →
    ∃ es, WT P n t es ∧ RelE W cs es
  | 0, _, _, _, _, h, _, _ => by simp [okT] at h
  | n + 1, fuel, t, cs, x, hok, hx, hw => by
    simp only [okT] at hok
    split at hok
    · rename_i hu
      obtain ⟨b, rfl, _⟩ := DataW.trod_bool hu hx
      refine ⟨[.bool b], by simp [WT, hu], rfl, fun j c e hc he => ?_⟩
      match j with
      | 0 => simp at hc he; subst hc; subst he; exact .v rfl
      | j + 1 => simp at hc
    · rename_i k hu
      obtain ⟨m, rfl, _, hwf⟩ := DataW.trod_int hu hx
      simp only [Lit.wf, Bool.and_eq_true, decide_eq_true_eq] at hwf
      refine ⟨[.v (.int k m)], by simp [WT, hu, hwf], rfl, fun j c e hc he => ?_⟩
      match j with
      | 0 => simp at hc he; subst hc; subst he; exact .v (by simpa [okV] using hwf)
      | j + 1 => simp at hc
    · rename_i hu
      obtain ⟨s, rfl, rfl, _⟩ := DataW.trod_string hu hx
      have hs : s.size ≤ maxN := by
        have := hw s.data.toList.length (by simp [DataW.weights])
        have e : s.data.toList.length = s.size := rfl
        simp only [reachBytes, maxN] at *
        omega
      refine ⟨[.v (.string s)], by simp [WT, hu, hs], rfl, fun j c e hc he => ?_⟩
      match j with
      | 0 => simp at hc he; subst hc; subst he; exact .v (by simpa [okV] using hs)
      | j + 1 => simp at hc
    · rename_i fs hu
      simp only [Bool.and_eq_true, List.all_eq_true, beq_iff_eq] at hok
      obtain ⟨xs, m, rfl, rfl, hl, hxl, hf⟩ := DataW.trod_struct hu hx
      obtain ⟨es, hr, hwt⟩ := fields_E (P := P) (W := W) (n := n) (cs := cs) fs.toList 0 _ hok.2 hl.symm (fun i f hfi => by
        have hfi' : fs[i]? = some f := by simpa using hfi
        have hi : i < xs.length := by rw [hxl]; exact (Array.getElem?_eq_some_iff.1 hfi').1
        have h1 := hf i f hfi'
        rw [List.getElem?_eq_getElem hi] at h1
        refine trod_E n m f.type _ _ (hok.1 f (List.mem_of_getElem? hfi)) h1 fun k hk => hw k ?_
        simp only [DataW.weights, hu]
        exact weightsEach_get (i := i) (by simp [hfi]) (by simp [hi]) k hk)
      rw [List.drop_zero] at hr
      refine ⟨es, ?_, hr⟩
      simp only [WT, hu]
      exact ⟨hr.1.trans hl, fun i f hfi => by simpa using (hwt i f (by simpa using hfi)).1⟩
    · rename_i e hu
      simp only [Bool.and_eq_true, beq_iff_eq, decide_eq_true_eq] at hok
      obtain ⟨⟨⟨_, hoe⟩, hbe⟩, hce⟩ := hok
      rcases DataW.trod_slice hu hx with ⟨rfl, _⟩ | ⟨a, len, cap, elems, rest, m, rfl, rfl, rfl, _, hlc, _, hel, hrows, _, _⟩
      · refine ⟨[.sl []], by simp [WT, hu], rfl, fun j c e hc he => ?_⟩
        match j with
        | 0 => simp at hc he; subst hc; subst he; exact .nils fun _ => rfl
        | j + 1 => simp at hc
      · have hlen : len ≤ maxN := by
          have := hw ((elems.length + rest.length) * P.bytesOf e) (by simp [DataW.weights, hu])
          have h1 : elems.length + rest.length ≤ (elems.length + rest.length) * P.bytesOf e := Nat.le_mul_of_pos_right _ hbe
          simp only [reachBytes, maxN] at *
          omega
        obtain ⟨rows, hrl, hrq⟩ := list_of (Q := fun i r => WT P n e r ∧ ∃ cs', W.cells? 0 (a.add (i * P.cellsOf e)) (P.cellsOf e) = some cs' ∧ RelE W cs' r) len fun i hi => by
          have h1 := hrows i hi
          have hi' : i < elems.length := by omega
          rw [List.getElem?_eq_getElem hi', Option.bind_eq_some_iff] at h1
          obtain ⟨cs', h2, h3⟩ := h1
          obtain ⟨r, w1, w2⟩ := trod_E n m e cs' _ hoe h3 fun k hk => hw k (by
            simp only [DataW.weights, hu, List.mem_cons, List.mem_append]
            exact .inr (.inl (weightsAll_get (List.mem_map.2 ⟨_, List.getElem_mem hi', rfl⟩) k hk)))
          exact ⟨r, w1, cs', h2, w2⟩
        have hcells : ∀ (i : Nat) r, rows[i]? = some r → r.length = P.cellsOf e ∧ ∀ j, j < P.cellsOf e → ∃ c, W.cell? ((a.add (i * P.cellsOf e)).add j) = some c ∧ ∀ d, r[j]? = some d → RvE W (pubAll W).pub c d := by
          intro i r hr
          obtain ⟨_, cs', h1, h2, h3⟩ := hrq i r hr
          simp only [World.cells?, Nat.zero_le, if_true] at h1
          have hcl := mapM_some_length h1
          simp only [List.length_range] at hcl
          refine ⟨h2.trans hcl, fun j hj => ?_⟩
          have h4 := mapM_some_get h1 j j (by simp [hj])
          rw [List.getElem?_eq_getElem (show j < cs'.length by omega)] at h4
          exact ⟨_, h4, fun d hd => h3 j _ d (List.getElem?_eq_getElem (by omega)) hd⟩
        refine ⟨[.sl rows], ?_, rfl, fun j c d hc hd => ?_⟩
        · simp only [WT, hu]
          refine ⟨rows, rfl, by omega, fun r hr => ?_⟩
          obtain ⟨i, hi, rfl⟩ := List.getElem_of_mem hr
          exact ⟨(hrq i _ (List.getElem?_eq_getElem hi)).1, (hcells i _ (List.getElem?_eq_getElem hi)).1⟩
        · match j with
          | j + 1 => simp at hc
          | 0 =>
            simp at hc hd
            subst hc; subst hd
            rcases Nat.eq_zero_or_pos len with h0 | h0
            · have : rows = [] := List.length_eq_zero_iff.1 (by omega)
              subst this; subst h0
              exact .nils fun h => by cases h
            · obtain ⟨b, off, spt⟩ := a
              have hsp : spt = none := by
                obtain ⟨_, h1⟩ := hcells 0 _ (List.getElem?_eq_getElem (by omega))
                obtain ⟨c, h2, _⟩ := h1 0 hce
                simp only [Nat.zero_mul, Addr.add, if_true, World.cell?] at h2
                split at h2
                · split at h2
                  · cases h2
                  · rename_i hs; simpa using hs
                · cases h2
              subst hsp
              have hcell : ∀ j, j < len * P.cellsOf e → ∃ c, W.cell? ⟨b, off + j, none⟩ = some c ∧ ∀ d, rows.flatten[j]? = some d → RvE W (pubAll W).pub c d := by
                intro j hj
                have hi : j / P.cellsOf e < rows.length := by rw [hrl]; exact Nat.div_lt_of_lt_mul (by rw [Nat.mul_comm]; exact hj)
                have hr := List.getElem?_eq_getElem hi
                obtain ⟨h1, h2⟩ := hcells _ _ hr
                obtain ⟨c, h3, h4⟩ := h2 (j % P.cellsOf e) (Nat.mod_lt _ hce)
                have hjj : j / P.cellsOf e * P.cellsOf e + j % P.cellsOf e = j := by rw [Nat.mul_comm]; exact Nat.div_add_mod j _
                rw [addr_add, addr_add, Nat.add_assoc, hjj] at h3
                refine ⟨c, h3, fun d hd => h4 d ?_⟩
                have hk : ∀ r ∈ rows, r.length = P.cellsOf e := fun r hr => by
                  obtain ⟨i, hi, rfl⟩ := List.getElem_of_mem hr
                  exact (hcells i _ (List.getElem?_eq_getElem hi)).1
                rw [← flatten_get hk _ _ _ hr (Nat.mod_lt _ hce), hjj]; exact hd
              refine .sl (k := P.cellsOf e) (fun j => (W.cell? ⟨b, off + j, none⟩).getD undef) hrl hlc (by omega) (fun r hr => ?_) (fun j hj => ?_) (fun j d hd => ?_)
              · obtain ⟨i, hi, rfl⟩ := List.getElem_of_mem hr
                exact (hcells i _ (List.getElem?_eq_getElem hi)).1
              · obtain ⟨c, h1, _⟩ := hcell j hj
                refine ⟨?_, by simp [h1]⟩
                show b < W.heap.size
                simp only [World.cell?] at h1
                split at h1
                · rename_i hb
                  exact (Array.getElem?_eq_some_iff.1 hb).1
                · cases h1
              · have hj : j < len * P.cellsOf e := by
                  have hk : ∀ r ∈ rows, r.length = P.cellsOf e := fun r hr => by
                    obtain ⟨i, hi, rfl⟩ := List.getElem_of_mem hr
                    exact (hcells i _ (List.getElem?_eq_getElem hi)).1
                  rw [← hrl, ← flatten_len hk]; exact (List.getElem?_eq_some_iff.1 hd).1
                obtain ⟨c, h1, h2⟩ := hcell j hj
                simp only [h1, Option.getD_some]
                exact h2 d hd
    · cases hok
/-- An argument that is a slice. -/
theorem arg_sl {n : Nat} {t e : TypeId} {b0 : Nat} {v : Value} {d : DataW H} {ps : List MemPlace} (ht : P.underlying t = some (.slice e)) (hok : okT P (n + 1) t = true) (hv : Value.okWide P W .any b0 t v)
    (h : DataW.Trod enc P W 0 sp held t v d ps) (hw : ∀ k ∈ d.weights P t, k ≤ reachBytes) : ∃ rows, Rv W (pubAll W) (hpF []) v (.e (.sl rows)) ∧ ∀ r ∈ rows, WT P n e r ∧ r.length = P.cellsOf e := by
  obtain ⟨a, len, cap, rfl⟩ := okWide_slice ht hv
  obtain ⟨fuel, hf⟩ := h
  obtain ⟨es, w1, _, r1⟩ := trod_E (n + 1) fuel t _ _ hok hf hw
  simp only [WT, ht] at w1
  obtain ⟨rows, rfl, _, h3⟩ := w1
  exact ⟨rows, .e (r1 0 _ _ (by simp [Value.cells]) rfl), h3⟩
end
end Go.Proofs.Ytfplalbognalkaa.Ab
