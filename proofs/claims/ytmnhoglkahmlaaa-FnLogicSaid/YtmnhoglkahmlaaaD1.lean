/- Draws: the reader, Vals. -/
import Derived.Test.YtmnhoglkahmlaaaDC
import Derived.Test.YtmnhoglkahmlaaaAb17
import Derived.Test.YtmnhoglkahmlaaaW1
import Derived.Test.YtmnhoglkahmlaaaW2
set_option linter.unusedSimpArgs false
set_option linter.unusedVariables false
set_option linter.unnecessarySimpa false
set_option linter.constructorNameAsVariable false
namespace Go.Proofs.Ytmnhoglkahmlaaa.Ab
open Go
/-- The reader's memory. -/
abbrev rd (es : List (List E)) (p : Int) : O := .box [.e (.sl es), .int p]
structure RdOk (es : List (List E)) (p : Int) : Prop where
  bs : ∃ l : List UInt8, es = bytesE l
  le : es.length ≤ 1500
  p0 : 0 ≤ p
  p1 : p ≤ 2000
theorem RdOk.at {es : List (List E)} {p q : Int} (h : RdOk es p) (h0 : 0 ≤ q) (h1 : q ≤ 2000) : RdOk es q := ⟨h.bs, h.le, h0, h1⟩
/-- A function that is handed the reader first. -/
abbrev Rdr (fn : FuncId) (args : List D) (es : List (List E)) (p : Int) (d : D) (q : Int) : Prop := Proc Try.prog fn (fun t => .ref (t 0) 0 :: args) (fun _ => [rd es p]) (fun _ => d) (fun _ => [rd es q])
/-- What is free of numbers. -/
def D.nn (d : D) : Prop := (∀ t, d.ren t = d) ∧ ∀ m, d.lt m = true
theorem rdr_side {args : List D} {es : List (List E)} {p q : Int} {d : D} (ha : ∀ t, rens t args = args) (hl : ∀ m, lts m args = true) (hd : ∀ t, d.ren t = d) : Side (fun t => .ref (t 0) 0 :: args) (fun _ => [rd es p]) (fun _ => d) (fun _ => [rd es q]) :=
  ⟨fun t => by simp [rens, D.ren, ha], by simp [lts, D.lt, hl], fun t => rfl, by intro o ho; simp at ho; subst ho; rfl, fun t => (hd t).symm, fun t => rfl, by simp⟩
theorem rdr_fin {A : Ar} (hA : A.Ok) {es : List (List E)} {p q : Int} {d d' : D} {l' : List O} (h0 : hpF l' 0 = rd es q) (h1 : d = d' ∨ d = d'.pl) (hd : ∀ t, d.ren t = d) (hl : ∀ m, d.lt m = true) : A.finv [rd es p] l' d' [rd es q] d :=
  hA.finv _ _ _ _ _ (FinV.ren [0] (fun _ => [rd es q]) (fun _ => d) rfl h1 ⟨h0, trivial⟩ (fun t => (hd t).symm) (hl _) (fun t => rfl) (by intro o ho; simp at ho; subst ho; rfl))
theorem byte_at {es : List (List E)} (hb : ∃ l : List UInt8, es = bytesE l) {n : Int} (h : 0 ≤ n ∧ n < es.length) : ∃ b : Int, es.getD n.toNat [] = [.v (.int .u8 b)] ∧ 0 ≤ b ∧ b ≤ 255 := by
  obtain ⟨l, rfl⟩ := hb
  have hn : n.toNat < l.length := by simp [bytesE] at h; omega
  refine ⟨(l[n.toNat]).toNat, by simp [List.getD, bytesE, hn], by omega, ?_⟩
  have := UInt8.toNat_lt (l[n.toNat])
  omega
set_option maxRecDepth 100000 in
theorem ok74 {es : List (List E)} {p : Int} (h : RdOk es p) : ∃ x : Int × Int, ((0 ≤ x.1 ∧ x.1 ≤ 255) ∧ RdOk es x.2) ∧ Rdr 74 [] es p (.int x.1) x.2 := by
  obtain ⟨hb, hl, p0, p1⟩ := h
  have h := RdOk.mk hb hl p0 p1
  by_cases hin : 0 ≤ p ∧ p < es.length
  · obtain ⟨b, e1, b0, b1⟩ := byte_at hb hin
    refine ⟨(b, p + 1), ⟨⟨b0, b1⟩, h.at (by omega) (by omega)⟩, procOf mixed p74 (rdr_side (fun _ => rfl) (fun _ => rfl) fun _ => rfl) fun A P hA hP => ?_⟩
    cbv
    repeat' first | with_reducible rfl | with_reducible refine And.intro ?_ ?_ | ((with_reducible intro hcc); first | (cases hcc; done) | skip) | ((with_reducible show goC _ _ _ _ _ _ _ _); cbv) | ((with_reducible show goOps _ _ _ _ _); cbv) | ((with_reducible show okWr _ _ = _); rfl) | ((with_reducible refine hA.row es _ _ ⟨hin, fun row hrow => ?_⟩); rw [e1] at hrow; subst hrow; cbv) | ((with_reducible refine hA.fin_pl _ _ _ ?_); cbv) | ((with_reducible refine hA.len _ _ _ _ _ fun z hz hb => ?_); cbv) | ((with_reducible refine hA.slen _ _ _ _ _ fun z hz hb => ?_); cbv) | ((with_reducible refine hA.off _ _ _ _ fun b hb => ?_); cbv) | ((with_reducible refine hA.plus _ _ _ fun b hb => ?_); cbv) | ((with_reducible refine hA.rep _ _ _ fun ds m hds hm => ?_); cbv) | ((with_reducible refine hA.app _ _ _ _ _ ⟨?_, fun zs m hzs hm => ?_⟩); rotate_left; cbv) | ((with_reducible refine hA.app0 _ _ _ ⟨?_, fun m hm => ?_⟩); rotate_left; cbv) | ((with_reducible refine hA.slc _ _ _ _ _ ⟨?_, fun zs hzs => ?_⟩); rotate_left; cbv) | ((with_reducible refine hA.st _ _ _ _ _ ⟨?_, fun ds hds => ?_⟩); rotate_left; cbv) | ((with_reducible refine hA.alt _ _ (Or.inl ?_)); cbv) | ((with_reducible refine hA.appv _ _ _ _ _ _ ⟨?_, fun bb m ds hbb hm hds => ?_⟩); rotate_left; cbv) | ((with_reducible refine hA.vsl _ _ _ _ ⟨?_, fun m hm => ?_⟩); rotate_left; cbv) | ((with_reducible refine hA.vcut _ _ _ _ ⟨?_, fun cs hcs => ?_⟩); rotate_left; cbv) | ((with_reducible refine hA.appw _ _ _ _ _ _ _ ⟨?_, fun bb m ds hbb hm hds => ?_⟩); rotate_left; cbv) | ((with_reducible refine hA.six _ _ _ fun z6 c hz6 hc hc2 => ?_); cbv) | ((with_reducible refine hA.ssl _ _ _ _ ⟨?_, fun sl hsl => ?_⟩); rotate_left; cbv) | ((with_reducible refine hA.sapp _ _ _ ⟨?_, fun sl hsl => ?_⟩); rotate_left; cbv) | ((with_reducible refine hA.s2b _ _ fun es hes => ?_); cbv) | ((with_reducible refine hA.gb0 true _ ?_); cbv) | ((with_reducible refine hA.gb0 false _ ?_); cbv) | ((with_reducible refine hA.gb _ _ fun vb hvb => ?_); cbv) | ((with_reducible refine hA.mget _ _ _ _ ⟨fun mv hmv => ?_, fun hmv => ?_⟩) <;> cbv) | ((with_reducible refine hA.mset _ _ _ _ fun ml hml => ?_); cbv) | (simp only [hA.natLit, hA.natOf, hA.natCast]; cbv)
    all_goals try simp only [hA.add, hA.sub, hA.mul, hA.neg, hA.div, hA.mod, hA.mn, hA.mx, hA.eq, hA.lt, hA.le, hA.nat, hA.R, hA.lep, hA.ltp, hA.seq, inR, n_cast, Int.ofNat_eq_natCast, Option.getD_some, Option.getD_none] at *
    all_goals first
      | exact rdr_fin hA rfl (.inl rfl) (fun _ => rfl) fun _ => rfl
      | omega
      | (simp at *; omega)
      | (trace_state; fail)
  · refine ⟨(0, p), ⟨⟨by omega, by omega⟩, h⟩, procOf mixed p74 (rdr_side (fun _ => rfl) (fun _ => rfl) fun _ => rfl) fun A P hA hP => ?_⟩
    cbv
    repeat' first | with_reducible rfl | with_reducible refine And.intro ?_ ?_ | ((with_reducible intro hcc); first | (cases hcc; done) | skip) | ((with_reducible show goC _ _ _ _ _ _ _ _); cbv) | ((with_reducible show goOps _ _ _ _ _); cbv) | ((with_reducible show okWr _ _ = _); rfl) | ((with_reducible refine hA.fin_pl _ _ _ ?_); cbv) | ((with_reducible refine hA.len _ _ _ _ _ fun z hz hb => ?_); cbv) | ((with_reducible refine hA.slen _ _ _ _ _ fun z hz hb => ?_); cbv) | ((with_reducible refine hA.off _ _ _ _ fun b hb => ?_); cbv) | ((with_reducible refine hA.plus _ _ _ fun b hb => ?_); cbv) | ((with_reducible refine hA.rep _ _ _ fun ds m hds hm => ?_); cbv) | ((with_reducible refine hA.app _ _ _ _ _ ⟨?_, fun zs m hzs hm => ?_⟩); rotate_left; cbv) | ((with_reducible refine hA.app0 _ _ _ ⟨?_, fun m hm => ?_⟩); rotate_left; cbv) | ((with_reducible refine hA.slc _ _ _ _ _ ⟨?_, fun zs hzs => ?_⟩); rotate_left; cbv) | ((with_reducible refine hA.st _ _ _ _ _ ⟨?_, fun ds hds => ?_⟩); rotate_left; cbv) | ((with_reducible refine hA.alt _ _ (Or.inl ?_)); cbv) | ((with_reducible refine hA.appv _ _ _ _ _ _ ⟨?_, fun bb m ds hbb hm hds => ?_⟩); rotate_left; cbv) | ((with_reducible refine hA.vsl _ _ _ _ ⟨?_, fun m hm => ?_⟩); rotate_left; cbv) | ((with_reducible refine hA.vcut _ _ _ _ ⟨?_, fun cs hcs => ?_⟩); rotate_left; cbv) | ((with_reducible refine hA.appw _ _ _ _ _ _ _ ⟨?_, fun bb m ds hbb hm hds => ?_⟩); rotate_left; cbv) | ((with_reducible refine hA.six _ _ _ fun z6 c hz6 hc hc2 => ?_); cbv) | ((with_reducible refine hA.ssl _ _ _ _ ⟨?_, fun sl hsl => ?_⟩); rotate_left; cbv) | ((with_reducible refine hA.sapp _ _ _ ⟨?_, fun sl hsl => ?_⟩); rotate_left; cbv) | ((with_reducible refine hA.s2b _ _ fun es hes => ?_); cbv) | ((with_reducible refine hA.gb0 true _ ?_); cbv) | ((with_reducible refine hA.gb0 false _ ?_); cbv) | ((with_reducible refine hA.gb _ _ fun vb hvb => ?_); cbv) | ((with_reducible refine hA.mget _ _ _ _ ⟨fun mv hmv => ?_, fun hmv => ?_⟩) <;> cbv) | ((with_reducible refine hA.mset _ _ _ _ fun ml hml => ?_); cbv) | (simp only [hA.natLit, hA.natOf, hA.natCast]; cbv)
    all_goals try simp only [hA.add, hA.sub, hA.mul, hA.neg, hA.div, hA.mod, hA.mn, hA.mx, hA.eq, hA.lt, hA.le, hA.nat, hA.R, hA.lep, hA.ltp, hA.seq, inR, n_cast, Int.ofNat_eq_natCast, Option.getD_some, Option.getD_none] at *
    all_goals first
      | exact rdr_fin hA rfl (.inl rfl) (fun _ => rfl) fun _ => rfl
      | omega
      | (simp at *; omega)
      | (trace_state; fail)
set_option maxRecDepth 100000 in
theorem ok75 {es : List (List E)} {p : Int} (h : RdOk es p) {r : Int} (hr : r = es.length - p) : Rdr 75 [] es p (.int r) p := procOf mixed p75 (rdr_side (fun _ => rfl) (fun _ => rfl) fun _ => rfl) fun A P hA hP => (by
  obtain ⟨hb, hl, p0, p1⟩ := h
  cbv
  repeat' first | with_reducible rfl | with_reducible refine And.intro ?_ ?_ | ((with_reducible intro hcc); first | (cases hcc; done) | skip) | ((with_reducible show goC _ _ _ _ _ _ _ _); cbv) | ((with_reducible show goOps _ _ _ _ _); cbv) | ((with_reducible show okWr _ _ = _); rfl) | ((with_reducible refine hA.fin_pl _ _ _ ?_); cbv) | ((with_reducible refine hA.len _ _ _ _ _ fun z hz hb => ?_); cbv) | ((with_reducible refine hA.slen _ _ _ _ _ fun z hz hb => ?_); cbv) | ((with_reducible refine hA.off _ _ _ _ fun b hb => ?_); cbv) | ((with_reducible refine hA.plus _ _ _ fun b hb => ?_); cbv) | ((with_reducible refine hA.rep _ _ _ fun ds m hds hm => ?_); cbv) | ((with_reducible refine hA.app _ _ _ _ _ ⟨?_, fun zs m hzs hm => ?_⟩); rotate_left; cbv) | ((with_reducible refine hA.app0 _ _ _ ⟨?_, fun m hm => ?_⟩); rotate_left; cbv) | ((with_reducible refine hA.slc _ _ _ _ _ ⟨?_, fun zs hzs => ?_⟩); rotate_left; cbv) | ((with_reducible refine hA.st _ _ _ _ _ ⟨?_, fun ds hds => ?_⟩); rotate_left; cbv) | ((with_reducible refine hA.alt _ _ (Or.inl ?_)); cbv) | ((with_reducible refine hA.appv _ _ _ _ _ _ ⟨?_, fun bb m ds hbb hm hds => ?_⟩); rotate_left; cbv) | ((with_reducible refine hA.vsl _ _ _ _ ⟨?_, fun m hm => ?_⟩); rotate_left; cbv) | ((with_reducible refine hA.vcut _ _ _ _ ⟨?_, fun cs hcs => ?_⟩); rotate_left; cbv) | ((with_reducible refine hA.appw _ _ _ _ _ _ _ ⟨?_, fun bb m ds hbb hm hds => ?_⟩); rotate_left; cbv) | ((with_reducible refine hA.six _ _ _ fun z6 c hz6 hc hc2 => ?_); cbv) | ((with_reducible refine hA.ssl _ _ _ _ ⟨?_, fun sl hsl => ?_⟩); rotate_left; cbv) | ((with_reducible refine hA.sapp _ _ _ ⟨?_, fun sl hsl => ?_⟩); rotate_left; cbv) | ((with_reducible refine hA.s2b _ _ fun es hes => ?_); cbv) | ((with_reducible refine hA.gb0 true _ ?_); cbv) | ((with_reducible refine hA.gb0 false _ ?_); cbv) | ((with_reducible refine hA.gb _ _ fun vb hvb => ?_); cbv) | ((with_reducible refine hA.mget _ _ _ _ ⟨fun mv hmv => ?_, fun hmv => ?_⟩) <;> cbv) | ((with_reducible refine hA.mset _ _ _ _ fun ml hml => ?_); cbv) | (simp only [hA.natLit, hA.natOf, hA.natCast]; cbv)
  all_goals try simp only [hA.add, hA.sub, hA.mul, hA.neg, hA.div, hA.mod, hA.mn, hA.mx, hA.eq, hA.lt, hA.le, hA.nat, hA.R, hA.lep, hA.ltp, hA.seq, inR, n_cast, Int.ofNat_eq_natCast, Option.getD_some, Option.getD_none] at *
  all_goals first
    | exact rdr_fin hA rfl (.inl (by rw [hr, hz])) (fun _ => rfl) fun _ => rfl
    | omega
    | (trace_state; fail))
theorem bytesE_take (l : List UInt8) (n : Nat) : (bytesE l).take n = bytesE (l.take n) := by simp [bytesE, List.map_take]
set_option maxRecDepth 100000 in
theorem ok73 {es : List (List E)} (hb : ∃ l : List UInt8, es = bytesE l) : ∃ es', RdOk es' 0 ∧ Proc Try.prog 73 (fun _ => [.e (.sl es)]) (fun _ => []) (fun t => .ref (t 0) 0) (fun _ => [rd es' 0]) := by
  have side : ∀ es', Side (fun _ => [.e (.sl es)]) (fun _ => []) (fun t => .ref (t 0) 0) (fun _ => [rd es' 0]) := fun es' => ⟨fun t => rfl, rfl, fun t => rfl, by simp, fun t => rfl, fun t => rfl, by simp⟩
  have fin : ∀ {A : Ar} (hA : A.Ok) (l' : List O) (es' : List (List E)) (j : Nat), hpF l' j = rd es' 0 → A.finv [] l' (.ref j 0) [rd es' 0] (.ref 0 0) := fun hA l' es' j h =>
    hA.finv _ _ _ _ _ (FinV.ren [j] (fun _ => [rd es' 0]) (fun t => .ref (t 0) 0) rfl (.inl rfl) ⟨h, trivial⟩ (fun t => rfl) rfl (fun t => rfl) (by intro o ho; simp at ho; subst ho; rfl))
  by_cases hl : es.length ≤ 1500
  · refine ⟨es, ⟨hb, hl, by omega, by omega⟩, procOf mixed p73 (side _) fun A P hA hP => ?_⟩
    cbv
    repeat' first | with_reducible rfl | with_reducible refine And.intro ?_ ?_ | ((with_reducible intro hcc); first | (cases hcc; done) | skip) | ((with_reducible show goC _ _ _ _ _ _ _ _); cbv) | ((with_reducible show goOps _ _ _ _ _); cbv) | ((with_reducible show okWr _ _ = _); rfl) | ((with_reducible refine hA.fin_pl _ _ _ ?_); cbv) | ((with_reducible refine hA.len _ _ _ _ _ fun z hz hb => ?_); cbv) | ((with_reducible refine hA.slen _ _ _ _ _ fun z hz hb => ?_); cbv) | ((with_reducible refine hA.off _ _ _ _ fun b hb => ?_); cbv) | ((with_reducible refine hA.plus _ _ _ fun b hb => ?_); cbv) | ((with_reducible refine hA.rep _ _ _ fun ds m hds hm => ?_); cbv) | ((with_reducible refine hA.app _ _ _ _ _ ⟨?_, fun zs m hzs hm => ?_⟩); rotate_left; cbv) | ((with_reducible refine hA.app0 _ _ _ ⟨?_, fun m hm => ?_⟩); rotate_left; cbv) | ((with_reducible refine hA.slc _ _ _ _ _ ⟨?_, fun zs hzs => ?_⟩); rotate_left; cbv) | ((with_reducible refine hA.st _ _ _ _ _ ⟨?_, fun ds hds => ?_⟩); rotate_left; cbv) | ((with_reducible refine hA.alt _ _ (Or.inl ?_)); cbv) | ((with_reducible refine hA.appv _ _ _ _ _ _ ⟨?_, fun bb m ds hbb hm hds => ?_⟩); rotate_left; cbv) | ((with_reducible refine hA.vsl _ _ _ _ ⟨?_, fun m hm => ?_⟩); rotate_left; cbv) | ((with_reducible refine hA.vcut _ _ _ _ ⟨?_, fun cs hcs => ?_⟩); rotate_left; cbv) | ((with_reducible refine hA.appw _ _ _ _ _ _ _ ⟨?_, fun bb m ds hbb hm hds => ?_⟩); rotate_left; cbv) | ((with_reducible refine hA.six _ _ _ fun z6 c hz6 hc hc2 => ?_); cbv) | ((with_reducible refine hA.ssl _ _ _ _ ⟨?_, fun sl hsl => ?_⟩); rotate_left; cbv) | ((with_reducible refine hA.sapp _ _ _ ⟨?_, fun sl hsl => ?_⟩); rotate_left; cbv) | ((with_reducible refine hA.s2b _ _ fun es hes => ?_); cbv) | ((with_reducible refine hA.gb0 true _ ?_); cbv) | ((with_reducible refine hA.gb0 false _ ?_); cbv) | ((with_reducible refine hA.gb _ _ fun vb hvb => ?_); cbv) | ((with_reducible refine hA.mget _ _ _ _ ⟨fun mv hmv => ?_, fun hmv => ?_⟩) <;> cbv) | ((with_reducible refine hA.mset _ _ _ _ fun ml hml => ?_); cbv) | (simp only [hA.natLit, hA.natOf, hA.natCast]; cbv)
    all_goals try simp only [hA.add, hA.sub, hA.mul, hA.neg, hA.div, hA.mod, hA.mn, hA.mx, hA.eq, hA.lt, hA.le, hA.nat, hA.R, hA.lep, hA.ltp, hA.seq, inR, n_cast, Int.ofNat_eq_natCast, Option.getD_some, Option.getD_none] at *
    all_goals first
      | exact fin hA _ _ _ rfl
      | omega
      | (simp at *; omega)
      | (trace_state; fail)
  · obtain ⟨l, rfl⟩ := hb
    refine ⟨bytesE (l.take 1500), ⟨⟨_, rfl⟩, by simp [bytesE]; omega, by omega, by omega⟩, procOf mixed p73 (side _) fun A P hA hP => ?_⟩
    obtain ⟨es, hes⟩ : ∃ es, es = bytesE l := ⟨_, rfl⟩
    have hk : allLen 1 es := by rw [hes]; exact allLen_iff.2 fun e he => by obtain ⟨b, _, rfl⟩ := List.mem_map.1 he; rfl
    obtain ⟨es', hes'⟩ : ∃ es', es' = bytesE (l.take 1500) := ⟨_, rfl⟩
    rw [← hes] at hl ⊢
    rw [← hes']
    cbv
    repeat' first | with_reducible rfl | with_reducible refine And.intro ?_ ?_ | ((with_reducible intro hcc); first | (cases hcc; done) | skip) | ((with_reducible show goC _ _ _ _ _ _ _ _); cbv) | ((with_reducible show goOps _ _ _ _ _); cbv) | ((with_reducible show okWr _ _ = _); rfl) | ((with_reducible refine hA.fin_pl _ _ _ ?_); cbv) | ((with_reducible refine hA.len _ _ _ _ _ fun z hz hb => ?_); cbv) | ((with_reducible refine hA.slen _ _ _ _ _ fun z hz hb => ?_); cbv) | ((with_reducible refine hA.off _ _ _ _ fun b hb => ?_); cbv) | ((with_reducible refine hA.plus _ _ _ fun b hb => ?_); cbv) | ((with_reducible refine hA.rep _ _ _ fun ds m hds hm => ?_); cbv) | ((with_reducible refine hA.app _ _ _ _ _ ⟨?_, fun zs m hzs hm => ?_⟩); rotate_left; cbv) | ((with_reducible refine hA.app0 _ _ _ ⟨?_, fun m hm => ?_⟩); rotate_left; cbv) | ((with_reducible refine hA.slc _ _ _ _ _ ⟨?_, fun zs hzs => ?_⟩); rotate_left; cbv) | ((with_reducible refine hA.st _ _ _ _ _ ⟨?_, fun ds hds => ?_⟩); rotate_left; cbv) | ((with_reducible refine hA.alt _ _ (Or.inl ?_)); cbv) | ((with_reducible refine hA.appv _ _ _ _ _ _ ⟨?_, fun bb m ds hbb hm hds => ?_⟩); rotate_left; cbv) | ((with_reducible refine hA.vsl _ _ _ _ ⟨?_, fun m hm => ?_⟩); rotate_left; cbv) | ((with_reducible refine hA.vcut _ _ _ _ ⟨?_, fun cs hcs => ?_⟩); rotate_left; cbv) | ((with_reducible refine hA.appw _ _ _ _ _ _ _ ⟨?_, fun bb m ds hbb hm hds => ?_⟩); rotate_left; cbv) | ((with_reducible refine hA.six _ _ _ fun z6 c hz6 hc hc2 => ?_); cbv) | ((with_reducible refine hA.ssl _ _ _ _ ⟨?_, fun sl hsl => ?_⟩); rotate_left; cbv) | ((with_reducible refine hA.sapp _ _ _ ⟨?_, fun sl hsl => ?_⟩); rotate_left; cbv) | ((with_reducible refine hA.s2b _ _ fun es hes => ?_); cbv) | ((with_reducible refine hA.gb0 true _ ?_); cbv) | ((with_reducible refine hA.gb0 false _ ?_); cbv) | ((with_reducible refine hA.gb _ _ fun vb hvb => ?_); cbv) | ((with_reducible refine hA.mget _ _ _ _ ⟨fun mv hmv => ?_, fun hmv => ?_⟩) <;> cbv) | ((with_reducible refine hA.mset _ _ _ _ fun ml hml => ?_); cbv) | (simp only [hA.natLit, hA.natOf, hA.natCast]; cbv)
    all_goals try simp only [hA.add, hA.sub, hA.mul, hA.neg, hA.div, hA.mod, hA.mn, hA.mx, hA.eq, hA.lt, hA.le, hA.nat, hA.R, hA.lep, hA.ltp, hA.seq, inR, n_cast, Int.ofNat_eq_natCast, Option.getD_some, Option.getD_none] at *
    all_goals first
      | (have e7 : zs = es' := (by rw [hzs, hes', ← bytesE_take, hes]; rfl)
         subst e7
         exact fin hA _ _ _ rfl)
      | exact ⟨hk, by omega, by omega, by omega⟩
      | omega
      | (simp at *; omega)
      | (trace_state; fail)
set_option maxRecDepth 100000 in
theorem ok83 {es : List (List E)} {p : Int} (h : RdOk es p) : ∃ x : V × Int, RdOk es x.2 ∧ Rdr 83 [] es p (dv x.1) x.2 := by
  refine procEx (args := fun t => [.ref (t 0) 0]) (l0 := fun _ => [rd es p]) mixed (fun x : V × Int => RdOk es x.2) (fun x _ => dv x.1) (fun x _ => [rd es x.2]) p83 ⟨((false, 0), p), h⟩ (fun x _ => rdr_side (fun _ => rfl) (fun _ => rfl) fun _ => rfl) fun A P hA hP => ?_
  have hR := h
  cbv
  repeat' first | with_reducible rfl | with_reducible refine And.intro ?_ ?_ | ((with_reducible intro hcc); first | (cases hcc; done) | skip) | ((with_reducible show goC _ _ _ _ _ _ _ _); cbv) | ((with_reducible show goOps _ _ _ _ _); cbv) | ((with_reducible show okWr _ _ = _); rfl) | ((with_reducible show A.call _ _ _ _ _ 74 _ _ _); obtain ⟨⟨v, q⟩, ⟨⟨hv0, hv1⟩, hR⟩, hc⟩ := ok74 hR; refine callK_pr hA hP [0] (by rfl) (by exact ⟨rfl, trivial⟩) (Wks.refl _) ?_ (fun _ _ => hc) hc.side; cbv) | ((with_reducible refine callK_eq hA hP ?_ ?_ ?_ (Wks.refl _) (fun _ _ => ok94 _)); exact rfl; exact rfl; cbv) | ((with_reducible refine hA.fin_pl _ _ _ ?_); cbv) | ((with_reducible refine hA.len _ _ _ _ _ fun z hz hb => ?_); cbv) | ((with_reducible refine hA.slen _ _ _ _ _ fun z hz hb => ?_); cbv) | ((with_reducible refine hA.off _ _ _ _ fun b hb => ?_); cbv) | ((with_reducible refine hA.plus _ _ _ fun b hb => ?_); cbv) | ((with_reducible refine hA.rep _ _ _ fun ds m hds hm => ?_); cbv) | ((with_reducible refine hA.app _ _ _ _ _ ⟨?_, fun zs m hzs hm => ?_⟩); rotate_left; cbv) | ((with_reducible refine hA.app0 _ _ _ ⟨?_, fun m hm => ?_⟩); rotate_left; cbv) | ((with_reducible refine hA.slc _ _ _ _ _ ⟨?_, fun zs hzs => ?_⟩); rotate_left; cbv) | ((with_reducible refine hA.st _ _ _ _ _ ⟨?_, fun ds hds => ?_⟩); rotate_left; cbv) | ((with_reducible refine hA.alt _ _ (Or.inl ?_)); cbv) | ((with_reducible refine hA.appv _ _ _ _ _ _ ⟨?_, fun bb m ds hbb hm hds => ?_⟩); rotate_left; cbv) | ((with_reducible refine hA.vsl _ _ _ _ ⟨?_, fun m hm => ?_⟩); rotate_left; cbv) | ((with_reducible refine hA.vcut _ _ _ _ ⟨?_, fun cs hcs => ?_⟩); rotate_left; cbv) | ((with_reducible refine hA.appw _ _ _ _ _ _ _ ⟨?_, fun bb m ds hbb hm hds => ?_⟩); rotate_left; cbv) | ((with_reducible refine hA.six _ _ _ fun z6 c hz6 hc hc2 => ?_); cbv) | ((with_reducible refine hA.ssl _ _ _ _ ⟨?_, fun sl hsl => ?_⟩); rotate_left; cbv) | ((with_reducible refine hA.sapp _ _ _ ⟨?_, fun sl hsl => ?_⟩); rotate_left; cbv) | ((with_reducible refine hA.s2b _ _ fun es hes => ?_); cbv) | ((with_reducible refine hA.gb0 true _ ?_); cbv) | ((with_reducible refine hA.gb0 false _ ?_); cbv) | ((with_reducible refine hA.gb _ _ fun vb hvb => ?_); cbv) | ((with_reducible refine hA.mget _ _ _ _ ⟨fun mv hmv => ?_, fun hmv => ?_⟩) <;> cbv) | ((with_reducible refine hA.mset _ _ _ _ fun ml hml => ?_); cbv) | (simp only [hA.natLit, hA.natOf, hA.natCast]; cbv)
  all_goals try simp only [hA.add, hA.sub, hA.mul, hA.neg, hA.div, hA.mod, hA.mn, hA.mx, hA.eq, hA.lt, hA.le, hA.nat, hA.R, hA.lep, hA.ltp, hA.seq, inR, n_cast, Int.ofNat_eq_natCast, Option.getD_some, Option.getD_none] at *
  all_goals first
    | exact ⟨((_, _), _), hR, rdr_fin hA rfl (.inl rfl) (fun _ => rfl) fun _ => rfl⟩
    | omega
    | (trace_state; fail)
/-- A row is drawn. -/
theorem rows_app (l : List V) (v : V) : l.map vr ++ [[E.bool v.1, E.int v.2]] = (l ++ [v]).map vr := by simp
set_option maxRecDepth 100000 in
theorem ok77 {es : List (List E)} {p : Int} (h : RdOk es p) {n : Int} (hn : n ≤ 1000) : ∃ x : List V × Int, (RdOk es x.2 ∧ (x.1.length : Int) = max n 0) ∧ Rdr 77 [.int n] es p (.e (.sl (x.1.map vr))) x.2 := by
  refine procEx (args := fun t => [.ref (t 0) 0, .int n]) (l0 := fun _ => [rd es p]) mixed (fun x : List V × Int => RdOk es x.2 ∧ (x.1.length : Int) = max n 0) (fun x _ => .e (.sl (x.1.map vr))) (fun x _ => [rd es x.2]) p77 ⟨(List.replicate n.toNat (false, 0), p), h, by simp⟩ (fun x _ => rdr_side (fun _ => rfl) (fun _ => rfl) fun _ => rfl) fun A P hA hP => ?_
  cbv
  repeat' first | with_reducible rfl | with_reducible refine And.intro ?_ ?_ | ((with_reducible intro hcc); first | (cases hcc; done) | skip) | ((with_reducible show goC _ _ _ _ _ _ _ _); cbv) | ((with_reducible show goOps _ _ _ _ _); cbv) | ((with_reducible show okWr _ _ = _); rfl) | ((with_reducible refine hA.fin_pl _ _ _ ?_); cbv) | ((with_reducible refine hA.len _ _ _ _ _ fun z hz hb => ?_); cbv) | ((with_reducible refine hA.slen _ _ _ _ _ fun z hz hb => ?_); cbv) | ((with_reducible refine hA.off _ _ _ _ fun b hb => ?_); cbv) | ((with_reducible refine hA.plus _ _ _ fun b hb => ?_); cbv) | ((with_reducible refine hA.rep _ _ _ fun ds m hds hm => ?_); cbv) | ((with_reducible refine hA.app _ _ _ _ _ ⟨?_, fun zs m hzs hm => ?_⟩); rotate_left; cbv) | ((with_reducible refine hA.app0 _ _ _ ⟨?_, fun m hm => ?_⟩); rotate_left; cbv) | ((with_reducible refine hA.slc _ _ _ _ _ ⟨?_, fun zs hzs => ?_⟩); rotate_left; cbv) | ((with_reducible refine hA.st _ _ _ _ _ ⟨?_, fun ds hds => ?_⟩); rotate_left; cbv) | ((with_reducible refine hA.alt _ _ (Or.inl ?_)); cbv) | ((with_reducible refine hA.appv _ _ _ _ _ _ ⟨?_, fun bb m ds hbb hm hds => ?_⟩); rotate_left; cbv) | ((with_reducible refine hA.vsl _ _ _ _ ⟨?_, fun m hm => ?_⟩); rotate_left; cbv) | ((with_reducible refine hA.vcut _ _ _ _ ⟨?_, fun cs hcs => ?_⟩); rotate_left; cbv) | ((with_reducible refine hA.appw _ _ _ _ _ _ _ ⟨?_, fun bb m ds hbb hm hds => ?_⟩); rotate_left; cbv) | ((with_reducible refine hA.six _ _ _ fun z6 c hz6 hc hc2 => ?_); cbv) | ((with_reducible refine hA.ssl _ _ _ _ ⟨?_, fun sl hsl => ?_⟩); rotate_left; cbv) | ((with_reducible refine hA.sapp _ _ _ ⟨?_, fun sl hsl => ?_⟩); rotate_left; cbv) | ((with_reducible refine hA.s2b _ _ fun es hes => ?_); cbv) | ((with_reducible refine hA.gb0 true _ ?_); cbv) | ((with_reducible refine hA.gb0 false _ ?_); cbv) | ((with_reducible refine hA.gb _ _ fun vb hvb => ?_); cbv) | ((with_reducible refine hA.mget _ _ _ _ ⟨fun mv hmv => ?_, fun hmv => ?_⟩) <;> cbv) | ((with_reducible refine hA.mset _ _ _ _ fun ml hml => ?_); cbv) | (simp only [hA.natLit, hA.natOf, hA.natCast]; cbv)
  all_goals try simp only [hA.add, hA.sub, hA.mul, hA.neg, hA.div, hA.mod, hA.mn, hA.mx, hA.eq, hA.lt, hA.le, hA.nat, hA.R, hA.lep, hA.ltp, hA.seq, inR, n_cast, Int.ofNat_eq_natCast, Option.getD_some, Option.getD_none] at *
  refine hA.loopI (fun m s => ∃ (i q : Int) (l : List V) (x : List (List E)), 0 ≤ i ∧ m + i = max n 0 ∧ l.length = i ∧ x = l.map vr ∧ RdOk es q ∧ s = ⟨[(6, .int i), (5, .own 1 x), (1, .int n), (0, .ref 0 0)], [rd es q, .front x.length 2]⟩) (max n 0).toNat _
    ((Weak.zown 5 2 rfl).trans (Weak.keep (env' := [(6, .int 0), (5, .own 1 []), (1, .int n), (0, .ref 0 0)]) ⟨rfl, rfl, rfl, rfl, trivial⟩)) ⟨0, p, [], [], by omega, by omega, rfl, rfl, h, rfl⟩ ?_
  rintro mm s K ⟨i, q, l, x, h0, h1, h2, hx, hR, rfl⟩ hK
  have hxl : x.length = l.length := by rw [hx]; simp
  obtain ⟨k, hk⟩ : ∃ k, k = x.length := ⟨_, rfl⟩
  rw [← hk]
  cbv
  repeat' first | with_reducible rfl | with_reducible refine And.intro ?_ ?_ | ((with_reducible intro hcc); first | (cases hcc; done) | skip) | ((with_reducible show goC _ _ _ _ _ _ _ _); cbv) | ((with_reducible show goOps _ _ _ _ _); cbv) | ((with_reducible show okWr _ _ = _); rfl) | ((with_reducible show A.call _ _ _ _ _ 83 _ _ _); obtain ⟨⟨⟨v1, v2⟩, q'⟩, hR, hc⟩ := ok83 hR; refine callK_pr hA hP [0] (by rfl) (by exact ⟨rfl, trivial⟩) (Wks.refl _) ?_ (fun _ _ => hc) hc.side; cbv) | ((with_reducible refine hA.fin_pl _ _ _ ?_); cbv) | ((with_reducible refine hA.len _ _ _ _ _ fun z hz hb => ?_); cbv) | ((with_reducible refine hA.slen _ _ _ _ _ fun z hz hb => ?_); cbv) | ((with_reducible refine hA.off _ _ _ _ fun b hb => ?_); cbv) | ((with_reducible refine hA.plus _ _ _ fun b hb => ?_); cbv) | ((with_reducible refine hA.rep _ _ _ fun ds m hds hm => ?_); cbv) | ((with_reducible refine hA.app _ _ _ _ _ ⟨?_, fun zs m hzs hm => ?_⟩); rotate_left; cbv) | ((with_reducible refine hA.app0 _ _ _ ⟨?_, fun m hm => ?_⟩); rotate_left; cbv) | ((with_reducible refine hA.slc _ _ _ _ _ ⟨?_, fun zs hzs => ?_⟩); rotate_left; cbv) | ((with_reducible refine hA.st _ _ _ _ _ ⟨?_, fun ds hds => ?_⟩); rotate_left; cbv) | ((with_reducible refine hA.alt _ _ (Or.inl ?_)); cbv) | ((with_reducible refine hA.appv _ _ _ _ _ _ ⟨?_, fun bb m ds hbb hm hds => ?_⟩); rotate_left; cbv) | ((with_reducible refine hA.vsl _ _ _ _ ⟨?_, fun m hm => ?_⟩); rotate_left; cbv) | ((with_reducible refine hA.vcut _ _ _ _ ⟨?_, fun cs hcs => ?_⟩); rotate_left; cbv) | ((with_reducible refine hA.appw _ _ _ _ _ _ _ ⟨?_, fun bb m ds hbb hm hds => ?_⟩); rotate_left; cbv) | ((with_reducible refine hA.six _ _ _ fun z6 c hz6 hc hc2 => ?_); cbv) | ((with_reducible refine hA.ssl _ _ _ _ ⟨?_, fun sl hsl => ?_⟩); rotate_left; cbv) | ((with_reducible refine hA.sapp _ _ _ ⟨?_, fun sl hsl => ?_⟩); rotate_left; cbv) | ((with_reducible refine hA.s2b _ _ fun es hes => ?_); cbv) | ((with_reducible refine hA.gb0 true _ ?_); cbv) | ((with_reducible refine hA.gb0 false _ ?_); cbv) | ((with_reducible refine hA.gb _ _ fun vb hvb => ?_); cbv) | ((with_reducible refine hA.mget _ _ _ _ ⟨fun mv hmv => ?_, fun hmv => ?_⟩) <;> cbv) | ((with_reducible refine hA.mset _ _ _ _ fun ml hml => ?_); cbv) | (simp only [hA.natLit, hA.natOf, hA.natCast]; cbv)
  all_goals try simp only [hA.add, hA.sub, hA.mul, hA.neg, hA.div, hA.mod, hA.mn, hA.mx, hA.eq, hA.lt, hA.le, hA.nat, hA.R, hA.lep, hA.ltp, hA.seq, inR, n_cast, Int.ofNat_eq_natCast, Option.getD_some, Option.getD_none] at *
  all_goals first
    | (refine hK _ (mm - 1) _ (by simp at *; omega) (Weak.ren (l0 := [rd es p]) [0, 1] (fun t => [(6, .int (i + 1)), (5, .own (t 1) zs), (1, .int n), (0, .ref (t 0) 0)]) (fun t => [rd es q', .front zs.length 2]) rfl
        ⟨.inl rfl, .inl rfl, .inl rfl, .inl rfl, trivial⟩ ⟨rfl, by rw [← hm]; rfl, trivial⟩ ⟨fun t => rfl, rfl, fun t => rfl, by intro o ho; simp at ho; rcases ho with rfl | rfl <;> rfl⟩)
        ⟨i + 1, q', l ++ [(v1, v2)], zs, by omega, by simp at *; omega, by simp; omega, by rw [hzs, hx]; simp, hR, rfl⟩)
    | exact ⟨(l, q), ⟨hR, by simp at *; omega⟩, rdr_fin hA rfl (.inr (by rw [hx]; rfl)) (fun _ => rfl) fun _ => rfl⟩
    | omega
    | exact ⟨rfl, trivial⟩
    | (rw [hk]; done)
    | (simp only [List.length_cons, List.length_nil]; omega)
    | (trace_state; fail)
end Go.Proofs.Ytmnhoglkahmlaaa.Ab
