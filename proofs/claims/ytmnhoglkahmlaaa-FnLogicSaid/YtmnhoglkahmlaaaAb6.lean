/- Each step of the small language is what the machine does: append. -/
import Derived.Test.YtmnhoglkahmlaaaAb5
import Derived.Laws.Append
import Derived.MapKept
set_option linter.unusedSimpArgs false
set_option linter.unusedVariables false
set_option linter.unnecessarySimpa false
set_option linter.constructorNameAsVariable false
namespace Go.Proofs.Ytmnhoglkahmlaaa.Ab
open Go
set_option linter.unusedVariables false
section
variable {P : Program} {o : Oper} {ev : X → Option D} {hpR : Hp} {f : Nat} {dr gd g : Bool} {K : Prop → Eff → Prop}
variable {dst : Option Nat} {ty : TypeId} {pos : String} {after : Array Edge} {gu : Option (Nat × Bool)}

/-- What is appended: its cells can be read. -/
structure Src (P : Program) (w : World) (t : TypeId) (size m : Nat) (x : Value) (news : Array Value) : Prop where
  known : ∃ d, P.underlying t = some d ∧ (match d with | .int _ => true | _ => false) = false
  len : (Builtin.lenOf x).run P w = .ok m w
  cells : (Builtin.firstCells size m x).run P w = .ok news w
  cells' : (Builtin.firstCells size m x).run P w.drew = .ok news w.drew
  size : news.size = m * size

section
variable {w : World} {t u e : TypeId} {i : TypeInfo} {z : Value} {k n m cap : Nat} {x : Value} {news olds : Array Value}

theorem run_app_room (ht : P.underlying t = some (.slice e)) (hi : P.info? e = some i) (hk : i.size = k) (hs : Src P w u k m x news) {a : Option Addr} (hr : n + m ≤ cap) {w' : World}
    (hst : match a with | some a => (storeCells (a.add (n * k)) news.toList).run P w = .ok () w' | none => w' = w) :
    (Builtin.append_ #[t, u] ty #[.slice a n cap, x]).run P w = .ok (.slice a (n + m) cap) w' := by
  obtain ⟨d, hd, hz⟩ := hs.known
  have hc := hs.cells
  have hl := hs.len
  subst hk
  cases a with
  | none =>
    simp only at hst; subst hst
    simp [Builtin.append_, run_underlying ht, run_underlying hd, sizeOf, typeInfo, hi, hl, hr, hc, hz, Result.andThen]
    cases d <;> simp_all [hl, hr, hc, Result.andThen]
  | some a =>
    simp only at hst
    simp [Builtin.append_, run_underlying ht, run_underlying hd, sizeOf, typeInfo, hi, hl, hr, hc, hz, Result.andThen, hst]
    cases d <;> simp_all [hl, hr, hc, Result.andThen]

theorem run_app_grow (ht : P.underlying t = some (.slice e)) (hi : P.info? e = some i) (hk : i.size = k) (hzr : i.zero = some z) (hs : Src P w u k m x news) {a : Option Addr} (hr : cap < n + m)
    (ho : (Builtin.firstCells k n (.slice a n cap)).run P w.drew = .ok olds w.drew) (h63 : n + m ≤ 2147483648) (hb : i.bytes ≤ 65536) :
    (Builtin.append_ #[t, u] ty #[.slice a n cap, x]).run P w =
      .ok (.slice (some ⟨w.heap.size, 0, none⟩) (n + m) (grownCap w (n + m) cap e))
        (w.drew.alloc (.cells (olds ++ news ++ Builtin.zeroCells z.cells (grownCap w (n + m) cap e - (n + m))) e)) := by
  obtain ⟨d, hd, hz⟩ := hs.known
  have hc := hs.cells'
  have hl := hs.len
  subst hk
  have hn : ¬ (n + m ≤ cap) := by omega
  have h63' : ¬ (9223372036854775807 < ((n : Int) + (m : Int))) := by omega
  have h47 : (n + m) * i.bytes ≤ 140737488355328 := Nat.le_trans (Nat.mul_le_mul h63 hb) (by decide)
  have h48 := growslice_fits (old := cap) (by omega) h47
  have h48' : ¬ (281474976710656 < Builtin.nextslicecap (n + m) cap * i.bytes) := by omega
  have hby : i.bytes = 0 → ¬ (9223372036854775807 < ((n : Int) + (m : Int))) := fun _ => h63'
  simp [Builtin.append_, run_underlying ht, run_underlying hd, sizeOf, typeInfo, zeroValue, hi, hzr, hl, hn, h63', h48', Question.forced, hc, ho, hz, Result.andThen, newRow, grownCap]
  cases d <;> simp_all [hl, hc, Result.andThen, newRow, grownCap, Question.forced]
end

theorem src_list {w : World} {G : Gh} {h : Hp} {t e : TypeId} {x : Value} {d : D} {ys : List (List E)} {k : Nat} (hu : P.underlying t = some (.slice e)) (r : Rv w G h x d) (hl : d.list = some ys) (hk : ∀ y ∈ ys, y.length = k) :
    ∃ news, Src P w t k ys.length x news ∧ ∀ (j : Nat) c d, news[j]? = some c → ys.flatten[j]? = some d → RvE w G.pub c d := by
  rcases rv_list r hl with ⟨a, rfl, rfl, _⟩ | r
  · refine ⟨#[], ⟨⟨_, hu, rfl⟩, rfl, ?_, ?_, by simp⟩, by simp⟩ <;> cases a <;> simp [Builtin.firstCells, loadCells, loadCellsFrom]
  · rcases rve_sl r with ⟨a, cap, rfl, rfl, _⟩ | ⟨b, off, cap, k', u, rfl, _, _, hkk, hp, hr⟩
    · refine ⟨#[], ⟨⟨_, hu, rfl⟩, rfl, ?_, ?_, by simp⟩, by simp⟩ <;> cases a <;> simp [Builtin.firstCells, loadCells, loadCellsFrom]
    · have hp' : ∀ j, j < ys.length * k → w.cell? ((⟨b, off, none⟩ : Addr).add j) = some (u j) := fun j hj => by
        rw [addr_add]
        rcases Nat.eq_zero_or_pos ys.length with h0 | h0
        · rw [h0] at hj; omega
        · obtain ⟨y, hy⟩ := List.exists_mem_of_length_pos h0
          have : k' = k := by rw [← hkk y hy, hk y hy]
          subst this
          exact (hp j hj).2
      refine ⟨((List.range (ys.length * k)).map u).toArray, ⟨⟨_, hu, rfl⟩, rfl, run_loadCells w _ _ u hp', run_loadCells w.drew _ _ u (fun j hj => by simpa using hp' j hj), by simp⟩, fun j c d hc hd => ?_⟩
      have hj : j < ys.length * k := by have := (Array.getElem?_eq_some_iff.1 hc).1; simpa using this
      simp [hj] at hc; subst hc
      exact hr j d hd

theorem src_str {w : World} {pub : Nat → Nat → Prop} {t : TypeId} {s : ByteArray} (hu : P.underlying t = some .string) :
    ∃ news, Src P w t 1 s.data.toList.length (.string s) news ∧ ∀ (j : Nat) c d, news[j]? = some c → (s.data.toList.map fun b => [E.v (.int .u8 b.toNat)]).flatten[j]? = some d → RvE w pub c d := by
  have e1 : s.data.toList.length = s.size := rfl
  have e2 : (Builtin.firstCells 1 s.size (.string s)) = pure (s.data.map fun b => .int .u8 b.toNat) := by
    simp only [Builtin.firstCells]
    congr 2
    apply Array.ext'
    simp [ByteArray.data_extract]
  refine ⟨(s.data.map fun b => .int .u8 b.toNat), ⟨⟨_, hu, rfl⟩, rfl, by rw [e1, e2]; rfl, by rw [e1, e2]; rfl, by simp⟩, fun j c d hc hd => ?_⟩
  refine u8_row s.data.toList #[] j c d ?_ hd
  rw [← hc]; congr 1; apply Array.ext'; simp

theorem inv_front0 {w : World} {G : Gh} {h : Hp} {i k : Nat} (hi : Inv w G h) (hd : h i = .dead ∨ h i = .front 0 k) :
    Inv w G (fun j => if j = i then .front 0 k else h j) ∧ Ext w G h w G (fun j => if j = i then .front 0 k else h j) := by
  have hnb : ∀ ds, h i ≠ .box ds := fun ds e => by rcases hd with hd | hd <;> rw [hd] at e <;> cases e
  have ext : Ext w G h w G (fun j => if j = i then .front 0 k else h j) := {
    os := rfl
    tape := rfl
    output := rfl
    size := Nat.le_refl _
    pub := fun b o p => ⟨p, rfl⟩
    box := fun j ds e => by
      have ej : j ≠ i := fun ej => hnb ds (ej ▸ e)
      exact ⟨⟨ds, by show (if j = i then _ else _) = _; rw [if_neg ej, e], rfl⟩, rfl⟩
    tok := fun j n k' e => by
      by_cases ej : j = i
      · subst ej
        rcases hd with hd | hd <;> rw [hd] at e <;> cases e
        exact ⟨0, if_pos rfl, Nat.le_refl _, fun _ h => absurd h (Nat.lt_irrefl _)⟩
      · exact ⟨n, by rw [if_neg ej, e], Nat.le_refl _, fun _ _ => ⟨rfl, rfl⟩⟩
    others := fun _ _ _ => rfl
    new := fun j hj => by
      by_cases ej : j = i
      · subst ej; simp [O.has] at hj
      · simp only [if_neg ej] at hj; exact .inl ⟨j, hj, rfl⟩
    pubnew := fun _ _ p => .inl p
    vec := fun j b k' ds e => by
      have ej : j ≠ i := fun ej => by subst ej; rcases hd with hd | hd <;> rw [hd] at e <;> cases e
      exact .inr ⟨ds, by rw [if_neg ej, e], Nat.le_refl _, fun _ => ⟨rfl, rfl⟩⟩
    gone := fun j e => by
      have ej : j ≠ i := fun ej => by subst ej; rcases hd with hd | hd <;> rw [hd] at e <;> cases e
      rw [if_neg ej, e]
    smap := fun j l e => by
      have ej : j ≠ i := fun ej => by subst ej; rcases hd with hd | hd <;> rw [hd] at e <;> cases e
      exact ⟨⟨l, by rw [if_neg ej, e]⟩, rfl⟩ }
  have hhas : ∀ j, O.has (if j = i then .front 0 k else h j) = true → (h j).has = true := fun j hj => by
    by_cases ej : j = i
    · subst ej; simp [O.has] at hj
    · rw [if_neg ej] at hj; exact hj
  refine ⟨{ lt := fun j hj => hi.lt j (hhas j hj), inj := fun a b p q e => hi.inj a b (hhas a p) (hhas b q) e, publt := hi.publt, box := fun j ds e => ?_, front := fun j n k' e h0 => ?_, vec := fun j b k' ds e => ?_, smap := fun j l e => ?_ }, ext⟩
  · by_cases ej : j = i
    · subst ej; simp at e
    · rw [if_neg ej] at e
      obtain ⟨p1, cs2, T2, p2, p3, p4⟩ := hi.box j ds e
      exact ⟨p1, cs2, T2, p2, p3, fun m c d a b => ⟨(p4 m c d a b).1.ext ext, (p4 m c d a b).2⟩⟩
  · by_cases ej : j = i
    · subst ej; simp at e; omega
    · rw [if_neg ej] at e; exact hi.front j n k' e h0
  · by_cases ej : j = i
    · subst ej; simp at e
    · rw [if_neg ej] at e
      obtain ⟨p0, p⟩ := hi.vec j b k' ds e
      refine ⟨p0, fun hb' => ?_⟩
      obtain ⟨p1, cs2, T2, p2, p3, p4⟩ := p hb'
      exact ⟨p1, cs2, T2, p2, p3, fun m c d a b => ⟨(p4 m c d a b).1.ext ext, (p4 m c d a b).2⟩⟩
  · by_cases ej : j = i
    · subst ej; simp at e
    · rw [if_neg ej] at e
      obtain ⟨p1, es2, ck, p2, p3, p4⟩ := hi.smap j l e
      exact ⟨p1, es2, ck, p2, p3, fun m e p a b => ⟨(p4 m e p a b).1, (p4 m e p a b).2.mono ext.pub⟩⟩

/-- An append in place: cells behind the front are written and published. -/
theorem front_step {w : World} {G : Gh} {h : Hp} {i n m k cap : Nat} {cs : Array Value} {T : TypeId} {news : Array Value} (hi : Inv w G h) (hb : h i = .front n k) (hn : 0 < n) (hc : w.heap[G.blk i]? = some (.cells cs T (0, 0)))
    (hl : news.size = m * k) (hcap : n + m ≤ cap) (hcs : cap * k ≤ cs.size) (h1 : ∀ v ∈ news.toList, v.oneCell' = true) :
    ∃ w' cs', (storeCells ⟨G.blk i, n * k, none⟩ news.toList).run P w = .ok () w' ∧
      Inv w' ⟨fun b o => G.pub b o ∨ (b = G.blk i ∧ n * k ≤ o ∧ o < (n + m) * k), G.blk⟩ (fun j => if j = i then .front (n + m) k else h j) ∧
      Ext w G h w' ⟨fun b o => G.pub b o ∨ (b = G.blk i ∧ n * k ≤ o ∧ o < (n + m) * k), G.blk⟩ (fun j => if j = i then .front (n + m) k else h j) ∧
      w'.heap[G.blk i]? = some (.cells cs' T (0, 0)) ∧ cs'.size = cs.size ∧ ∀ j, cs'[j]? = if n * k ≤ j ∧ j < (n + m) * k then news[j - n * k]? else cs[j]? := by
  obtain ⟨_, hfp⟩ := hi.front i n k hb hn
  have hmul : (n + m) * k = n * k + m * k := Nat.add_mul n m k
  have hle : (n + m) * k ≤ cs.size := Nat.le_trans (Nat.mul_le_mul_right k hcap) hcs
  have hrun := run_storeCells_at (P := P) (G.blk i) (n * k) T news.toList 0 cs w hc (by simp; omega) h1
  simp only [Nat.add_zero] at hrun
  generalize hcs' : (cs.toList.take (n * k) ++ news.toList ++ cs.toList.drop (n * k + news.toList.length)).toArray = cs' at hrun
  have hsz : cs'.size = cs.size := by rw [← hcs']; simp; omega
  have hget : ∀ j, cs'[j]? = if n * k ≤ j ∧ j < (n + m) * k then news[j - n * k]? else cs[j]? := fun j => by
    rw [← hcs', List.getElem?_toArray, splice_get _ _ _ _ (by simp; omega)]
    simp [hl, hmul]
  have hrow : (w.setRow (G.blk i) cs').heap[G.blk i]? = some (.cells cs' T (0, 0)) := setRow_heap w _ cs cs' T _ hc
  have hoth : ∀ b, b ≠ G.blk i → (w.setRow (G.blk i) cs').heap[b]? = w.heap[b]? := fun b e => setRow_other w _ b cs' e
  have hib : (h i).has = true := by rw [hb]; simp [O.has, hn]
  have hne : ∀ j, (h j).has = true → j ≠ i → G.blk j ≠ G.blk i := fun j hj e e' => e (hi.inj j i hj hib e')
  have ext : Ext w G h (w.setRow (G.blk i) cs') ⟨fun b o => G.pub b o ∨ (b = G.blk i ∧ n * k ≤ o ∧ o < (n + m) * k), G.blk⟩ (fun j => if j = i then .front (n + m) k else h j) := {
    os := rfl
    tape := rfl
    output := rfl
    size := by simp
    pub := fun b o p => ⟨.inl p, by
      by_cases e : b = G.blk i
      · subst e
        have ho : ¬ (n * k ≤ o ∧ o < (n + m) * k) := fun ho => hfp o ho.1 p
        have := hget o
        rw [if_neg ho] at this
        simp [World.cell?, hrow, hc, this]
      · exact World.cell?_of_block (hoth b e)⟩
    box := fun j ds e => by
      have ej : j ≠ i := fun ej => by subst ej; rw [hb] at e; cases e
      exact ⟨⟨ds, by rw [if_neg ej, e], rfl⟩, rfl⟩
    tok := fun j n' k' e => by
      by_cases ej : j = i
      · subst ej; rw [hb] at e; cases e
        exact ⟨n + m, if_pos rfl, by omega, fun _ _ => ⟨rfl, by rw [shape_size hrow, shape_size hc, hsz]⟩⟩
      · exact ⟨n', by rw [if_neg ej, e], Nat.le_refl _, fun _ h0 => ⟨rfl, by simp only [World.shape?]; rw [hoth _ (hne j (by rw [e]; simp [O.has, h0]) ej)]⟩⟩
    others := fun b _ ho => hoth b (fun e => ho i hib e.symm)
    new := fun j hj => by
      by_cases ej : j = i
      · subst ej; exact .inl ⟨j, hib, rfl⟩
      · simp only [if_neg ej] at hj; exact .inl ⟨j, hj, rfl⟩
    pubnew := fun b o p => by
      rcases p with p | ⟨rfl, _⟩
      · exact .inl p
      · exact .inr (.inr ⟨i, hib, rfl⟩)
    vec := fun j b k' ds e => by
      have ej : j ≠ i := fun ej => by subst ej; rw [hb] at e; cases e
      exact .inr ⟨ds, by rw [if_neg ej, e], Nat.le_refl _, fun hb' => ⟨rfl, by simp only [World.shape?]; rw [hoth _ (hne j (by rw [e]; exact hb') ej)]⟩⟩
    gone := fun j e => by
      have ej : j ≠ i := fun ej => by subst ej; rw [hb] at e; cases e
      rw [if_neg ej, e]
    smap := fun j l e => by
      have ej : j ≠ i := fun ej => by subst ej; rw [hb] at e; cases e
      exact ⟨⟨l, by rw [if_neg ej, e]⟩, rfl⟩ }
  have hhas : ∀ j, O.has (if j = i then .front (n + m) k else h j) = true → (h j).has = true := fun j hj => by
    by_cases ej : j = i
    · subst ej; exact hib
    · rw [if_neg ej] at hj; exact hj
  have hpl : ∀ b o, (G.pub b o ∨ (b = G.blk i ∧ n * k ≤ o ∧ o < (n + m) * k)) → b < (w.setRow (G.blk i) cs').heap.size := fun b o p => by
    rw [setRow_size]
    rcases p with p | ⟨rfl, _⟩
    · exact hi.publt b o p
    · exact hi.lt i hib
  refine ⟨_, cs', hrun, { lt := fun j hj => by rw [setRow_size]; exact hi.lt j (hhas j hj), inj := fun a b p q e => hi.inj a b (hhas a p) (hhas b q) e, publt := hpl, box := fun j ds e => ?_, front := fun j n' k' e h0 => ?_, vec := fun j b k' ds e => ?_, smap := fun j l e => ?_ }, ext, hrow, hsz, hget⟩
  · have ej : j ≠ i := fun ej => by subst ej; simp at e
    rw [if_neg ej] at e
    obtain ⟨p1, cs2, T2, p2, p3, p4⟩ := hi.box j ds e
    have hbj := hne j (by rw [e]; rfl) ej
    refine ⟨fun o p => ?_, cs2, T2, by rw [hoth _ hbj]; exact p2, p3, fun m c d a b => ⟨(p4 m c d a b).1.ext ext, (p4 m c d a b).2⟩⟩
    rcases p with p | ⟨p, _⟩
    · exact p1 o p
    · exact hbj p
  · by_cases ej : j = i
    · subst ej
      simp at e; obtain ⟨rfl, rfl⟩ := e
      refine ⟨⟨cs', T, hrow⟩, fun o ho p => ?_⟩
      rcases p with p | ⟨_, _, p⟩
      · exact hfp o (by omega) p
      · omega
    · rw [if_neg ej] at e
      obtain ⟨⟨cs2, T2, p2⟩, p3⟩ := hi.front j n' k' e h0
      have hbj := hne j (by rw [e]; simp [O.has, h0]) ej
      refine ⟨⟨cs2, T2, by rw [hoth _ hbj]; exact p2⟩, fun o ho p => ?_⟩
      rcases p with p | ⟨p, _⟩
      · exact p3 o ho p
      · exact hbj p
  · have ej : j ≠ i := fun ej => by subst ej; simp at e
    rw [if_neg ej] at e
    obtain ⟨p0, p⟩ := hi.vec j b k' ds e
    refine ⟨p0, fun hb' => ?_⟩
    obtain ⟨p1, cs2, T2, p2, p3, p4⟩ := p hb'
    have hbj := hne j (by rw [e]; exact hb') ej
    refine ⟨fun o p => ?_, cs2, T2, by rw [hoth _ hbj]; exact p2, p3, fun m c d a b => ⟨(p4 m c d a b).1.ext ext, (p4 m c d a b).2⟩⟩
    rcases p with p | ⟨p, _⟩
    · exact p1 o p
    · exact hbj p
  · have ej : j ≠ i := fun ej => by subst ej; simp at e
    rw [if_neg ej] at e
    obtain ⟨p1, es2, ck, p2, p3, p4⟩ := hi.smap j l e
    have hbj := hne j (by rw [e]; rfl) ej
    refine ⟨fun o p => ?_, es2, ck, by rw [hoth _ hbj]; exact p2, p3, fun m e p a b => ⟨(p4 m e p a b).1, (p4 m e p a b).2.mono ext.pub⟩⟩
    rcases p with p | ⟨p, _⟩
    · exact p1 o p
    · exact hbj p

theorem flatten_app {es ys : List (List E)} {k n : Nat} (hn : es.length = n) (hk : ∀ e ∈ es, e.length = k) (j : Nat) : (es ++ ys).flatten[j]? = if j < n * k then es.flatten[j]? else ys.flatten[j - n * k]? := by
  have hl : es.flatten.length = n * k := by rw [flatten_len hk, hn]
  rw [List.flatten_append]
  split
  · rw [List.getElem?_append_left (by omega)]
  · rw [List.getElem?_append_right (by omega), hl]

theorem one_of_rel {w : World} {pub : Nat → Nat → Prop} {news : Array Value} {ys : List E} (hl : news.size = ys.length) (hr : ∀ (j : Nat) c d, news[j]? = some c → ys[j]? = some d → RvE w pub c d) : ∀ v ∈ news.toList, v.oneCell' = true := by
  intro v hv
  obtain ⟨j, hj, rfl⟩ := List.getElem_of_mem hv
  have hj' : j < ys.length := by rw [← hl]; simpa using hj
  exact (hr j _ _ (by simpa using hj) (List.getElem?_eq_getElem hj')).cell

theorem app_core {w : World} {G : Gh} {h : Hp} {t u e : TypeId} {inf : TypeInfo} {z : Value} {k i n m : Nat} {es ys : List (List E)} {x v : Value} {news : Array Value} (hi : Inv w G h)
    (ht : P.underlying t = some (.slice e)) (hinf : P.info? e = some inf) (hk : inf.size = k) (hz : inf.zero = some z) (hzs : z.cells.size = k) (hby : inf.bytes ≤ 65536)
    (hs : Src P w u k m x news) (hm : ys.length = m) (hyk : ∀ y ∈ ys, y.length = k) (hnr : ∀ (j : Nat) c d, news[j]? = some c → ys.flatten[j]? = some d → RvE w G.pub c d)
    (hn : es.length = n) (hbnd : n + m ≤ 2147483648)
    (hd : (es = [] ∧ (∃ a, v = .slice a 0 0 ∧ ∀ y, a = some y → y.spot = none) ∧ (h i = .dead ∨ h i = .front 0 k)) ∨ (h i = .front n k ∧ Rv w G h v (.own i es) ∧ 0 < n)) :
    ∃ v' w' G', (Builtin.append_ #[t, u] ty #[v, x]).run P w = .ok v' w' ∧ Inv w' G' (fun j => if j = i then .front (n + m) k else h j) ∧ Ext w G h w' G' (fun j => if j = i then .front (n + m) k else h j) ∧
      Rv w' G' (fun j => if j = i then .front (n + m) k else h j) v' (.own i (es ++ ys)) := by
  have hyl : ys.flatten.length = m * k := by rw [flatten_len hyk, hm]
  have hn1 := one_of_rel (by rw [hs.size, hyl]) hnr
  have hmax : n + m ≤ maxN := by simp only [maxN]; omega
  -- the growing case, for any old cells
  have grow : ∀ (a : Option Addr) (cap : Nat) (olds : Array Value), v = .slice a n cap → n ≤ cap → cap < n + m → (Builtin.firstCells k n (.slice a n cap)).run P w.drew = .ok olds w.drew → olds.size = n * k → (∀ e ∈ es, e.length = k) →
      (∀ (j : Nat) c d, olds[j]? = some c → es.flatten[j]? = some d → RvE w G.pub c d) → (h i = .dead ∨ h i = .front n k) → (h i = .dead → n = 0) →
      ∃ v' w' G', (Builtin.append_ #[t, u] ty #[v, x]).run P w = .ok v' w' ∧ Inv w' G' (fun j => if j = i then .front (n + m) k else h j) ∧ Ext w G h w' G' (fun j => if j = i then .front (n + m) k else h j) ∧
        Rv w' G' (fun j => if j = i then .front (n + m) k else h j) v' (.own i (es ++ ys)) := by
    intro a cap olds hv hnc hc ho hol hek hor hdd hdn
    subst hv
    have hrun := run_app_grow (ty := ty) ht hinf hk hz hs hc ho hbnd hby
    obtain ⟨i0, x0⟩ := drew_step hi
    have hge := grownCap_ge w (n + m) cap e
    generalize grownCap w (n + m) cap e = cap' at hrun hge
    generalize hcs : olds ++ news ++ Builtin.zeroCells z.cells (cap' - (n + m)) = cs at hrun
    have hmul : (n + m) * k = n * k + m * k := Nat.add_mul n m k
    have hsz : cs.size = cap' * k := by
      rw [← hcs]
      simp only [Array.size_append, hol, hs.size, size_zeroCells, hzs, ← Nat.add_mul]
      congr 1
      omega
    have hkk : ∀ e ∈ es ++ ys, e.length = k := fun e he => (List.mem_append.1 he).elim (hek e) (hyk e)
    have hcell : ∀ (j : Nat) c d, cs[j]? = some c → (es ++ ys).flatten[j]? = some d → RvE w G.pub c d := by
      intro j c d hc' hd'
      rw [flatten_app hn hek] at hd'
      rw [← hcs, Array.append_assoc] at hc'
      split at hd'
      · rw [Array.getElem?_append_left (by omega)] at hc'; exact hor j c d hc' hd'
      · have hj : j - n * k < m * k := by rw [← hyl]; exact (List.getElem?_eq_some_iff.1 hd').1
        rw [Array.getElem?_append_right (by omega), hol, Array.getElem?_append_left (by rw [hs.size]; exact hj)] at hc'
        exact hnr _ c d hc' hd'
    obtain ⟨i1, x1⟩ := alloc_step (T := e) (cs := cs) (pn := fun o => o < (n + m) * k) (f := i) (h' := fun j => if j = i then .front (n + m) k else h j) i0
      (by rcases hdd with hdd | hdd
          · exact .inl hdd
          · exact .inr ⟨n, k, n + m, hdd, if_pos rfl, by omega, fun q => by
              rcases Nat.eq_zero_or_pos n with hn0 | hn0
              · exact hn0
              · have : m = 0 := by omega
                omega⟩)
      (fun j e => by simp [e]) (fun ds e => by simp at e) (fun n' k' e => by simp at e; obtain ⟨rfl, rfl⟩ := e; intro _ o ho; omega)
    have hnew : (w.drew.alloc (.cells cs e)).heap[w.heap.size]? = some (.cells cs e (0, 0)) := by show (w.heap.push _)[w.heap.size]? = _; simp
    have hle : (n + m) * k ≤ cap' * k := Nat.mul_le_mul_right k hge
    refine ⟨_, _, _, hrun, i1, x0.trans x1, .own (k := k) (new_list hnew (fun j hj => .inr ⟨rfl, hj⟩) (by simp [hn, hm]) hkk hge hmax (by omega) (fun j c d hc hd => (hcell j c d hc hd).mono (x0.trans x1).pub)) hkk ?_⟩
    have hpos : 0 < n + m := by omega
    refine ⟨n + m, if_pos rfl, by simp [hn, hm], fun _ => .inr ⟨by simp [hn, hm]; omega, cap', cs, e, (0, 0), ?_, ?_, by omega⟩⟩
    · simp [Gh.new, hn, hm]
    · simpa [Gh.new] using hnew
  rcases hd with ⟨rfl, ⟨a, rfl, ha⟩, hdd⟩ | ⟨hb, hv, hn0⟩
  · simp only [List.length_nil] at hn
    subst hn
    rcases Nat.eq_zero_or_pos m with hm0 | hm0
    · subst hm0
      have : ys = [] := List.length_eq_zero_iff.1 hm
      subst this
      have hn0 : news = #[] := Array.eq_empty_of_size_eq_zero (by rw [hs.size, Nat.zero_mul])
      obtain ⟨i1, x1⟩ := inv_front0 (k := k) hi hdd
      have hrun := run_app_room (ty := ty) ht hinf hk hs (a := a) (n := 0) (cap := 0) (Nat.le_refl _) (w' := w) (by cases a <;> simp [hn0, storeCells])
      refine ⟨_, _, _, hrun, i1, x1, .own (k := k) (empty_sl ha fun _ => rfl) (by simp) ⟨0, if_pos rfl, Nat.le_refl _, fun _ => .inl ⟨rfl, a, rfl, ha⟩⟩⟩
    · refine grow a 0 #[] rfl (Nat.le_refl _) (by omega) ?_ (by simp) (by simp) (by simp) hdd (fun _ => rfl)
      cases a <;> simp [Builtin.firstCells, loadCells, loadCellsFrom]
  · cases hv with
    | own hx hek ht' =>
      rename_i k'
      obtain ⟨N, hN, _, hcase⟩ := ht'
      rw [hb] at hN
      simp only [O.front.injEq] at hN
      obtain ⟨rfl, rfl⟩ := hN
      rcases hcase hn with ⟨h0, _⟩ | ⟨hpos, cap, cs, T, fr, hve, hcs, hcapcs⟩
      · omega
      · rcases rve_sl hx with ⟨_, _, e1, e2, _⟩ | ⟨b, off, cap2, k2, uu, e1, hcap, _, hkk, hp, hr⟩
        · have h00 : es.length = 0 := by rw [e2]; rfl
          omega
        rw [hve] at e1
        simp only [Value.slice.injEq, Option.some.injEq, Addr.mk.injEq] at e1
        obtain ⟨⟨rfl, rfl, _⟩, hlen, rfl⟩ := e1
        subst hve
        have hk2 : k2 = k := by
          obtain ⟨y, hy⟩ := List.exists_mem_of_length_pos (show 0 < es.length by omega)
          rw [← hkk y hy, hek y hy]
        subst hk2
        obtain ⟨⟨cs0, T0, hc0⟩, hfp⟩ := hi.front i n k2 hb hn0
        rw [hcs] at hc0
        simp only [Option.some.injEq, Obj.cells.injEq] at hc0
        obtain ⟨rfl, rfl, rfl⟩ := hc0
        rw [hn] at hp
        have hnk : n * k2 ≤ cs.size := by
          have : n * k2 ≤ cap * k2 := Nat.mul_le_mul_right k2 (by omega)
          omega
        have hold : ∀ (j : Nat) c d, cs[j]? = some c → es.flatten[j]? = some d → RvE w G.pub c d := by
          intro j c d hc hd
          have hj : j < n * k2 := by rw [← hn, ← flatten_len hek]; exact (List.getElem?_eq_some_iff.1 hd).1
          have h2 := (hp j hj).2
          simp only [World.cell?, hcs, Nat.zero_add] at h2
          rw [hc] at h2
          simp at h2; subst h2
          exact hr j d hd
        by_cases hroom : n + m ≤ cap
        · obtain ⟨w', cs', hrun, i1, x1, hc', hsz', hget⟩ := front_step (P := P) hi hb hn0 hcs hs.size hroom hcapcs hn1
          have hrun' := run_app_room (ty := ty) ht hinf hk hs (a := some ⟨G.blk i, 0, none⟩) hroom (w' := w') (by simp only [addr_add, Nat.zero_add]; exact hrun)
          have hle : (n + m) * k2 ≤ cap * k2 := Nat.mul_le_mul_right k2 hroom
          have hmul : (n + m) * k2 = n * k2 + m * k2 := Nat.add_mul n m k2
          have hkk2 : ∀ e ∈ es ++ ys, e.length = k2 := fun e he => (List.mem_append.1 he).elim (hek e) (hyk e)
          rw [hn]
          refine ⟨_, _, _, hrun', i1, x1, .own (k := k2) (new_list hc' (fun j hj => ?_) (by simp [hn, hm]) hkk2 hroom hmax (by omega) (fun j c d hc hd => ?_)) hkk2 ?_⟩
          · by_cases hj' : j < n * k2
            · exact .inl (by have := (hp j hj').1; rwa [Nat.zero_add] at this)
            · exact .inr ⟨rfl, by omega, hj⟩
          · rw [hget] at hc
            rw [flatten_app hn hek] at hd
            split at hd
            · rw [if_neg (by omega)] at hc; exact (hold j c d hc hd).mono x1.pub
            · have hj : j - n * k2 < m * k2 := by rw [← hyl]; exact (List.getElem?_eq_some_iff.1 hd).1
              rw [if_pos (by omega)] at hc
              exact (hnr _ c d hc hd).mono x1.pub
          · exact ⟨n + m, if_pos rfl, by simp [hn, hm], fun _ => .inr ⟨by simp [hn, hm]; omega, cap, cs', T, (0, 0), by simp [hn, hm], hc', by omega⟩⟩
        · refine grow (some ⟨G.blk i, 0, none⟩) cap (cs.extract 0 (n * k2)) (by rw [hn]) (by omega) (by omega) ?_ (by simp; omega) hek (fun j c d hc hd => ?_) (.inr hb) (fun e => by rw [hb] at e; cases e)
          · have := run_loadCells (P := P) w.drew ⟨G.blk i, 0, none⟩ (n * k2) uu (fun j hj => by rw [addr_add]; simpa using (hp j hj).2)
            simp only [Builtin.firstCells, this]
            congr 1
            apply Array.ext_getElem?
            intro j
            by_cases hj : j < n * k2
            · have h2 := (hp j hj).2
              simp only [World.cell?, hcs, Nat.zero_add] at h2
              have e3 : (cs.extract 0 (n * k2))[j]? = cs[j]? := by
                rw [Array.getElem?_extract, if_pos (by omega), Nat.zero_add]
              rw [e3]
              simp [hj]
              simpa using h2.symm
            · simp [hj]; omega
          · rw [Array.getElem?_extract] at hc
            split at hc
            · exact hold j c d (by simpa using hc) hd
            · cases hc

/-- A slice that is written in place passes its cells on; what had it before is gone. -/
theorem vec_move {w : World} {G : Gh} {h h' : Hp} {i f k m : Nat} {fl : Bool} {ds : List D} (hi : Inv w G h) (hb : h i = .vec fl k ds) (hd : h f = .dead)
    (hh : ∀ j, j ≠ i → j ≠ f → h' j = h j) (hni : h' i = .gone) (hnf : h' f = .vec fl k (ds.take m)) :
    Inv w ⟨G.pub, fun j => if j = f then G.blk i else G.blk j⟩ h' ∧ Ext w G h w ⟨G.pub, fun j => if j = f then G.blk i else G.blk j⟩ h' := by
  have hif : i ≠ f := fun e => by rw [e, hd] at hb; cases hb
  have bf : ∀ j, j ≠ f → (if j = f then G.blk i else G.blk j) = G.blk j := fun j e => if_neg e
  have old : ∀ j, j ≠ f → (h' j).has = true → (h j).has = true := fun j e hj => by
    by_cases e2 : j = i
    · rw [e2, hni] at hj; simp [O.has] at hj
    · rw [hh j e2 e] at hj; exact hj
  have ext : Ext w G h w ⟨G.pub, fun j => if j = f then G.blk i else G.blk j⟩ h' := {
    os := rfl
    tape := rfl
    output := rfl
    size := Nat.le_refl _
    pub := fun b o p => ⟨p, rfl⟩
    box := fun j ds' e => by
      have e1 : j ≠ i := fun ej => by rw [ej, hb] at e; cases e
      have e2 : j ≠ f := fun ej => by rw [ej, hd] at e; cases e
      exact ⟨⟨ds', by rw [hh j e1 e2, e], rfl⟩, bf j e2⟩
    tok := fun j n k' e => by
      have e1 : j ≠ i := fun ej => by rw [ej, hb] at e; cases e
      have e2 : j ≠ f := fun ej => by rw [ej, hd] at e; cases e
      exact ⟨n, by rw [hh j e1 e2, e], Nat.le_refl _, fun _ _ => ⟨bf j e2, rfl⟩⟩
    others := fun _ _ _ => rfl
    new := fun j hj => by
      by_cases e : j = f
      · subst e
        rw [hnf] at hj
        exact .inl ⟨i, by rw [hb]; exact hj, if_pos rfl⟩
      · exact .inl ⟨j, old j e hj, bf j e⟩
    pubnew := fun _ _ p => .inl p
    vec := fun j b k' ds' e => by
      by_cases e1 : j = i
      · exact .inl (by rw [e1, hni])
      have e2 : j ≠ f := fun ej => by rw [ej, hd] at e; cases e
      exact .inr ⟨ds', by rw [hh j e1 e2, e], Nat.le_refl _, fun _ => ⟨bf j e2, rfl⟩⟩
    gone := fun j e => by
      have e1 : j ≠ i := fun ej => by rw [ej, hb] at e; cases e
      have e2 : j ≠ f := fun ej => by rw [ej, hd] at e; cases e
      rw [hh j e1 e2, e]
    smap := fun j l e => by
      have e1 : j ≠ i := fun ej => by rw [ej, hb] at e; cases e
      have e2 : j ≠ f := fun ej => by rw [ej, hd] at e; cases e
      exact ⟨⟨l, by rw [hh j e1 e2, e]⟩, bf j e2⟩ }
  have hiv := hi.vec i fl k ds hb
  refine ⟨{ lt := fun j hj => ?_, inj := fun a b p q e => ?_, publt := hi.publt, box := fun j ds' e => ?_, front := fun j n k' e h0 => ?_, vec := fun j b k' ds' e => ?_, smap := fun j l e => ?_ }, ext⟩
  · by_cases e : j = f
    · subst e
      rw [hnf] at hj
      simp only [if_true]
      exact hi.lt i (by rw [hb]; exact hj)
    · show (if j = f then G.blk i else G.blk j) < _
      rw [bf j e]; exact hi.lt j (old j e hj)
  · have e' : (if a = f then G.blk i else G.blk a) = (if b = f then G.blk i else G.blk b) := e
    by_cases ea : a = f <;> by_cases eb : b = f
    · rw [ea, eb]
    · rw [if_pos ea, if_neg eb] at e'
      have hfl : (h i).has = true := by rw [ea, hnf] at p; rw [hb]; exact p
      have : i = b := hi.inj i b hfl (old b eb q) e'
      rw [← this, hni] at q; simp [O.has] at q
    · rw [if_neg ea, if_pos eb] at e'
      have hfl : (h i).has = true := by rw [eb, hnf] at q; rw [hb]; exact q
      have : a = i := hi.inj a i (old a ea p) hfl e'
      rw [this, hni] at p; simp [O.has] at p
    · rw [if_neg ea, if_neg eb] at e'
      exact hi.inj a b (old a ea p) (old b eb q) e'
  · have e1 : j ≠ i := fun ej => by rw [ej, hni] at e; cases e
    have e2 : j ≠ f := fun ej => by rw [ej, hnf] at e; cases e
    rw [hh j e1 e2] at e
    obtain ⟨p1, cs2, T2, p2, p3, p4⟩ := hi.box j ds' e
    show (∀ o, ¬ G.pub (if j = f then G.blk i else G.blk j) o) ∧ ∃ cs T, w.heap[(if j = f then G.blk i else G.blk j)]? = _ ∧ _
    rw [bf j e2]
    exact ⟨p1, cs2, T2, p2, p3, fun m c d a b => ⟨(p4 m c d a b).1.ext ext, (p4 m c d a b).2⟩⟩
  · have e1 : j ≠ i := fun ej => by rw [ej, hni] at e; cases e
    have e2 : j ≠ f := fun ej => by rw [ej, hnf] at e; cases e
    rw [hh j e1 e2] at e
    show (∃ cs T, w.heap[(if j = f then G.blk i else G.blk j)]? = _) ∧ ∀ o, _ → ¬ G.pub (if j = f then G.blk i else G.blk j) o
    rw [bf j e2]
    exact hi.front j n k' e h0
  · have e1 : j ≠ i := fun ej => by rw [ej, hni] at e; cases e
    by_cases e2 : j = f
    · rw [e2, hnf] at e
      simp only [O.vec.injEq] at e
      obtain ⟨rfl, rfl, rfl⟩ := e
      refine ⟨fun hb' => by rw [hiv.1 hb']; simp, fun hb' => ?_⟩
      obtain ⟨p1, cs2, T2, p2, p3, p4⟩ := hiv.2 hb'
      show (∀ o, ¬ G.pub (if j = f then G.blk i else G.blk j) o) ∧ ∃ cs T, w.heap[(if j = f then G.blk i else G.blk j)]? = _ ∧ _
      rw [if_pos e2]
      refine ⟨p1, cs2, T2, p2, by simp; omega, fun m' c d a b => ?_⟩
      rw [List.getElem?_take] at b
      split at b
      · exact ⟨(p4 m' c d a b).1.ext ext, (p4 m' c d a b).2⟩
      · cases b
    · rw [hh j e1 e2] at e
      obtain ⟨p0, p⟩ := hi.vec j b k' ds' e
      refine ⟨p0, fun hb' => ?_⟩
      obtain ⟨p1, cs2, T2, p2, p3, p4⟩ := p hb'
      show (∀ o, ¬ G.pub (if j = f then G.blk i else G.blk j) o) ∧ ∃ cs T, w.heap[(if j = f then G.blk i else G.blk j)]? = _ ∧ _
      rw [bf j e2]
      exact ⟨p1, cs2, T2, p2, p3, fun m c d a b => ⟨(p4 m c d a b).1.ext ext, (p4 m c d a b).2⟩⟩
  · have e1 : j ≠ i := fun ej => by rw [ej, hni] at e; cases e
    have e2 : j ≠ f := fun ej => by rw [ej, hnf] at e; cases e
    rw [hh j e1 e2] at e
    obtain ⟨p1, es2, ck, p2, p3, p4⟩ := hi.smap j l e
    show (∀ o, ¬ G.pub (if j = f then G.blk i else G.blk j) o) ∧ ∃ es ck, w.heap[(if j = f then G.blk i else G.blk j)]? = _ ∧ _
    rw [bf j e2]
    exact ⟨p1, es2, ck, p2, p3, fun m e p a b => ⟨(p4 m e p a b).1, (p4 m e p a b).2.mono ext.pub⟩⟩

/-- A thing without memory of its own: a slice that is written in place and holds nothing, or is gone. -/
theorem inv_none {w : World} {G : Gh} {h : Hp} {i : Nat} {ob : O} (hi : Inv w G h) (hob : ob = .gone ∨ ∃ k, ob = .vec false k []) (hd : h i = .dead ∨ (ob = .gone ∧ ∃ fl k ds, h i = .vec fl k ds)) :
    Inv w G (fun j => if j = i then ob else h j) ∧ Ext w G h w G (fun j => if j = i then ob else h j) := by
  have hobh : ob.has = false := by rcases hob with rfl | ⟨k, rfl⟩ <;> rfl
  have ext : Ext w G h w G (fun j => if j = i then ob else h j) := {
    os := rfl
    tape := rfl
    output := rfl
    size := Nat.le_refl _
    pub := fun b o p => ⟨p, rfl⟩
    box := fun j ds e => by
      have ej : j ≠ i := fun ej => by subst ej; rcases hd with hd | ⟨_, _, _, _, hd⟩ <;> rw [hd] at e <;> cases e
      exact ⟨⟨ds, by rw [if_neg ej, e], rfl⟩, rfl⟩
    tok := fun j n k' e => by
      have ej : j ≠ i := fun ej => by subst ej; rcases hd with hd | ⟨_, _, _, _, hd⟩ <;> rw [hd] at e <;> cases e
      exact ⟨n, by rw [if_neg ej, e], Nat.le_refl _, fun _ _ => ⟨rfl, rfl⟩⟩
    others := fun _ _ _ => rfl
    new := fun j hj => by
      by_cases ej : j = i
      · subst ej; simp only [if_true, hobh] at hj; cases hj
      · simp only [if_neg ej] at hj; exact .inl ⟨j, hj, rfl⟩
    pubnew := fun _ _ p => .inl p
    vec := fun j b k' ds e => by
      by_cases ej : j = i
      · subst ej
        rcases hd with hd | ⟨rfl, _⟩
        · rw [hd] at e; cases e
        · exact .inl (if_pos rfl)
      · exact .inr ⟨ds, by rw [if_neg ej, e], Nat.le_refl _, fun _ => ⟨rfl, rfl⟩⟩
    gone := fun j e => by
      have ej : j ≠ i := fun ej => by subst ej; rcases hd with hd | ⟨_, _, _, _, hd⟩ <;> rw [hd] at e <;> cases e
      rw [if_neg ej, e]
    smap := fun j l e => by
      have ej : j ≠ i := fun ej => by subst ej; rcases hd with hd | ⟨_, _, _, _, hd⟩ <;> rw [hd] at e <;> cases e
      exact ⟨⟨l, by rw [if_neg ej, e]⟩, rfl⟩ }
  have hhas : ∀ j, O.has (if j = i then ob else h j) = true → (h j).has = true := fun j hj => by
    by_cases ej : j = i
    · subst ej; simp only [if_true, hobh] at hj; cases hj
    · rw [if_neg ej] at hj; exact hj
  refine ⟨{ lt := fun j hj => hi.lt j (hhas j hj), inj := fun a b p q e => hi.inj a b (hhas a p) (hhas b q) e, publt := hi.publt, box := fun j ds e => ?_, front := fun j n k' e h0 => ?_, vec := fun j b k' ds e => ?_, smap := fun j l e => ?_ }, ext⟩
  · by_cases ej : j = i
    · subst ej; simp only [if_true] at e; rcases hob with rfl | ⟨k, rfl⟩ <;> cases e
    · rw [if_neg ej] at e
      obtain ⟨p1, cs2, T2, p2, p3, p4⟩ := hi.box j ds e
      exact ⟨p1, cs2, T2, p2, p3, fun m c d a b => ⟨(p4 m c d a b).1.ext ext, (p4 m c d a b).2⟩⟩
  · by_cases ej : j = i
    · subst ej; simp only [if_true] at e; rcases hob with rfl | ⟨k, rfl⟩ <;> cases e
    · rw [if_neg ej] at e; exact hi.front j n k' e h0
  · by_cases ej : j = i
    · subst ej; simp only [if_true] at e
      rcases hob with rfl | ⟨k, rfl⟩ <;> cases e
      exact ⟨fun _ => rfl, fun hb => (by cases hb)⟩
    · rw [if_neg ej] at e
      obtain ⟨p0, p⟩ := hi.vec j b k' ds e
      refine ⟨p0, fun hb' => ?_⟩
      obtain ⟨p1, cs2, T2, p2, p3, p4⟩ := p hb'
      exact ⟨p1, cs2, T2, p2, p3, fun m c d a b => ⟨(p4 m c d a b).1.ext ext, (p4 m c d a b).2⟩⟩
  · by_cases ej : j = i
    · subst ej; simp only [if_true] at e
      rcases hob with rfl | ⟨k, rfl⟩ <;> cases e
    · rw [if_neg ej] at e
      obtain ⟨p1, es2, ck, p2, p3, p4⟩ := hi.smap j l e
      exact ⟨p1, es2, ck, p2, p3, fun m e p a b => ⟨(p4 m e p a b).1, (p4 m e p a b).2.mono ext.pub⟩⟩

/-- An append that makes new memory, which is written in place from then on. -/
theorem vec_grow {w : World} {G : Gh} {h : Hp} {t u e : TypeId} {inf : TypeInfo} {z : Value} {k f n m cap : Nat} {ds0 : List D} {ys : List (List E)} {x : Value} {news olds : Array Value} {a : Option Addr} (hi : Inv w G h) (hd : h f = .dead)
    (ht : P.underlying t = some (.slice e)) (hinf : P.info? e = some inf) (hk : inf.size = k) (hz : inf.zero = some z) (hzs : z.cells.size = k) (hby : inf.bytes ≤ 65536)
    (hs : Src P w u k m x news) (hm : ys.length = m) (hyk : ∀ y ∈ ys, y.length = k) (hnr : ∀ (j : Nat) c d, news[j]? = some c → ys.flatten[j]? = some d → RvE w G.pub c d) (hbnd : n + m ≤ 2147483648)
    (hc : cap < n + m) (ho : (Builtin.firstCells k n (.slice a n cap)).run P w.drew = .ok olds w.drew) (hol : olds.size = n * k) (hdl : ds0.length = n * k)
    (hor : ∀ (j : Nat) c d, olds[j]? = some c → ds0[j]? = some d → Rv w G h c d ∧ c.oneCell' = true) :
    ∃ v' w' G', (Builtin.append_ #[t, u] ty #[.slice a n cap, x]).run P w = .ok v' w' ∧ Inv w' G' (fun j => if j = f then .vec true k (ds0 ++ ys.flatten.map .e) else h j) ∧
      Ext w G h w' G' (fun j => if j = f then .vec true k (ds0 ++ ys.flatten.map .e) else h j) ∧ Rv w' G' (fun j => if j = f then .vec true k (ds0 ++ ys.flatten.map .e) else h j) v' (.vec f (n + m) k) := by
  have hyl : ys.flatten.length = m * k := by rw [flatten_len hyk, hm]
  have hn1 := one_of_rel (by rw [hs.size, hyl]) hnr
  have hrun := run_app_grow (ty := ty) ht hinf hk hz hs hc ho hbnd hby
  obtain ⟨i0, x0⟩ := drew_step hi
  have hge := grownCap_ge w (n + m) cap e
  generalize grownCap w (n + m) cap e = cap' at hrun hge
  generalize hcs : olds ++ news ++ Builtin.zeroCells z.cells (cap' - (n + m)) = cs at hrun
  have hmul : (n + m) * k = n * k + m * k := Nat.add_mul n m k
  have hsz : cs.size = cap' * k := by
    rw [← hcs]
    simp only [Array.size_append, hol, hs.size, size_zeroCells, hzs, ← Nat.add_mul]
    congr 1
    omega
  have hle : (n + m) * k ≤ cap' * k := Nat.mul_le_mul_right k hge
  have hlen : (ds0 ++ ys.flatten.map D.e).length = (n + m) * k := by rw [List.length_append, List.length_map, hdl, hyl, hmul]
  have hcell : ∀ (j : Nat) c d, cs[j]? = some c → (ds0 ++ ys.flatten.map D.e)[j]? = some d → Rv w.drew G h c d ∧ c.oneCell' = true := by
    intro j c d hc' hd'
    rw [← hcs, Array.append_assoc] at hc'
    by_cases hj : j < n * k
    · rw [Array.getElem?_append_left (by omega)] at hc'
      rw [List.getElem?_append_left (by omega)] at hd'
      exact ⟨(hor j c d hc' hd').1.ext x0, (hor j c d hc' hd').2⟩
    · rw [List.getElem?_append_right (by omega), hdl, List.getElem?_map] at hd'
      obtain ⟨d0, h0, rfl⟩ := Option.map_eq_some_iff.1 hd'
      have hj2 : j - n * k < m * k := by rw [← hyl]; exact (List.getElem?_eq_some_iff.1 h0).1
      rw [Array.getElem?_append_right (by omega), hol, Array.getElem?_append_left (by rw [hs.size]; exact hj2)] at hc'
      exact ⟨(Rv.e (hnr _ c d0 hc' h0)).ext x0, (hnr _ c d0 hc' h0).cell⟩
  obtain ⟨i1, x1⟩ := alloc_step (T := e) (cs := cs) (pn := fun _ => False) (f := f) (h' := fun j => if j = f then .vec true k (ds0 ++ ys.flatten.map .e) else h j) i0 (.inl hd)
    (fun j e => by simp [e]) (fun ds e => by simp at e) (fun n' k' e => by simp at e)
    (fun b k' ds e => by cases (if_pos rfl).symm.trans e; exact ⟨rfl, fun _ p => p, by omega, hcell⟩)
  have hnew : (w.drew.alloc (.cells cs e)).heap[w.heap.size]? = some (.cells cs e (0, 0)) := by show (w.heap.push _)[w.heap.size]? = _; simp
  refine ⟨_, _, _, hrun, i1, x0.trans x1, .vec (by simp) (by simp only [maxN]; omega) hge fun b k' ds' e' => ?_⟩
  cases (if_pos rfl).symm.trans e'
  exact ⟨rfl, by omega, fun hb => (by cases hb), fun _ => ⟨by simp [Gh.new], cs, e, (0, 0), by simpa [Gh.new] using hnew, by omega⟩⟩

theorem happ_alwr (h : Hp) (f i : Nat) (d : Option D) (ob ob' : O) (tc : List Nat) : happ h f { d := d, al := [ob], wr := [(i, ob')], tc := tc } = fun j => if j = f then ob else if j = i then ob' else h j := by
  funext j
  simp only [happ, List.length_cons, List.length_nil]
  by_cases e : j = f
  · subst e; simp
  · rw [if_neg (by omega), if_neg e]
    by_cases e2 : j = i
    · subst e2; simp
    · rw [if_neg e2]
      have : (i == j) = false := by simp; exact fun e' => e2 e'.symm
      simp [List.find?_cons, this]

/-- An append to a slice that is written in place. -/
theorem vec_app {w : World} {G : Gh} {h : Hp} {t u e : TypeId} {inf : TypeInfo} {z : Value} {k i f n m : Nat} {fl : Bool} {ds : List D} {ys : List (List E)} {x v : Value} {news : Array Value} (hi : Inv w G h) (hd : h f = .dead)
    (ht : P.underlying t = some (.slice e)) (hinf : P.info? e = some inf) (hk : inf.size = k) (hz : inf.zero = some z) (hzs : z.cells.size = k) (hby : inf.bytes ≤ 65536)
    (hs : Src P w u k m x news) (hm : ys.length = m) (hyk : ∀ y ∈ ys, y.length = k) (hnr : ∀ (j : Nat) c d, news[j]? = some c → ys.flatten[j]? = some d → RvE w G.pub c d) (hbnd : n + m ≤ 2147483648)
    {kk : Nat} (hb : h i = .vec fl kk ds) (hv : Rv w G h v (.vec i n k)) :
    ∃ v' w' G', (Builtin.append_ #[t, u] ty #[v, x]).run P w = .ok v' w' ∧ Inv w' G' (fun j => if j = f then .vec (fl || decide (0 < m)) k (ds.take (n * k) ++ ys.flatten.map .e) else if j = i then .gone else h j) ∧
      Ext w G h w' G' (fun j => if j = f then .vec (fl || decide (0 < m)) k (ds.take (n * k) ++ ys.flatten.map .e) else if j = i then .gone else h j) ∧
      Rv w' G' (fun j => if j = f then .vec (fl || decide (0 < m)) k (ds.take (n * k) ++ ys.flatten.map .e) else if j = i then .gone else h j) v' (.vec f (n + m) k) := by
  obtain ⟨a, cap, rfl, _, _, hnc, hvo⟩ := rv_vec hv
  obtain ⟨rfl, hlen, h0, h1⟩ := hvo _ _ _ hb
  have hif : i ≠ f := fun e => by rw [e, hd] at hb; cases hb
  have hyl : ys.flatten.length = m * kk := by rw [flatten_len hyk, hm]
  have hn1 := one_of_rel (by rw [hs.size, hyl]) hnr
  have hiv := hi.vec i fl kk ds hb
  have grow : ∀ olds : Array Value, cap < n + m → (Builtin.firstCells kk n (.slice a n cap)).run P w.drew = .ok olds w.drew → olds.size = n * kk →
      (∀ (j : Nat) c d, olds[j]? = some c → (ds.take (n * kk))[j]? = some d → Rv w G h c d ∧ c.oneCell' = true) → ∃ v' w' G', (Builtin.append_ #[t, u] ty #[.slice a n cap, x]).run P w = .ok v' w' ∧
      Inv w' G' (fun j => if j = f then .vec (fl || decide (0 < m)) kk (ds.take (n * kk) ++ ys.flatten.map .e) else if j = i then .gone else h j) ∧
      Ext w G h w' G' (fun j => if j = f then .vec (fl || decide (0 < m)) kk (ds.take (n * kk) ++ ys.flatten.map .e) else if j = i then .gone else h j) ∧
      Rv w' G' (fun j => if j = f then .vec (fl || decide (0 < m)) kk (ds.take (n * kk) ++ ys.flatten.map .e) else if j = i then .gone else h j) v' (.vec f (n + m) kk) := fun olds hc ho hol hor => by
    have hfl : (fl || decide (0 < m)) = true := by
      cases fl with
      | true => rfl
      | false => have := (h0 rfl).1; simp; omega
    rw [hfl]
    obtain ⟨i0, x0⟩ := inv_none (ob := .gone) hi (.inl rfl) (.inr ⟨rfl, fl, kk, ds, hb⟩)
    obtain ⟨v', w', G', q1, q2, q3, q4⟩ := vec_grow (ty := ty) (ds0 := ds.take (n * kk)) i0 (f := f) (by show (if f = i then _ else _) = _; rw [if_neg (fun e => hif e.symm), hd]) ht hinf hk hz hzs hby hs hm hyk hnr hbnd hc ho hol (by simp; omega)
      (fun j c d a b => ⟨(hor j c d a b).1.ext x0, (hor j c d a b).2⟩)
    exact ⟨v', w', G', q1, q2, x0.trans q3, q4⟩
  cases hfl : fl with
  | false =>
    subst hfl
    obtain ⟨rfl, rfl, hsp⟩ := h0 rfl
    have hds := hiv.1 rfl
    subst hds
    rcases Nat.eq_zero_or_pos m with hm0 | hm0
    · subst hm0
      have : ys = [] := List.length_eq_zero_iff.1 hm
      subst this
      have hn0 : news = #[] := Array.eq_empty_of_size_eq_zero (by rw [hs.size, Nat.zero_mul])
      have hrun := run_app_room (ty := ty) ht hinf hk hs (a := a) (n := 0) (cap := 0) (Nat.le_refl _) (w' := w) (by cases a <;> simp [hn0, storeCells])
      obtain ⟨i1, x1⟩ := vec_move (m := 0) (f := f) (h' := fun j => if j = f then .vec (false || decide (0 < 0)) kk (([] : List D).take (0 * kk) ++ ([] : List (List E)).flatten.map .e) else if j = i then .gone else h j) hi hb hd
        (fun j a b => by simp [a, b]) (by simp [hif]) (by simp)
      refine ⟨_, _, _, hrun, i1, x1, .vec (by simp) (Nat.zero_le _) (Nat.le_refl _) fun b k' ds' e' => ?_⟩
      cases (if_pos rfl).symm.trans e'
      exact ⟨rfl, by simp, fun _ => ⟨rfl, rfl, hsp⟩, fun hb => (by cases hb)⟩
    · refine grow #[] (by omega) ?_ (by simp) (by simp)
      cases a <;> simp [Builtin.firstCells, loadCells, loadCellsFrom]
  | true =>
    subst hfl
    obtain ⟨rfl, cs, T, fr, hcs, hcap⟩ := h1 rfl
    obtain ⟨hnp, cs0, T0, hc0, hcl, hcr⟩ := hiv.2 rfl
    rw [hcs] at hc0
    simp only [Option.some.injEq, Obj.cells.injEq] at hc0
    obtain ⟨rfl, rfl, rfl⟩ := hc0
    have hmul : (n + m) * kk = n * kk + m * kk := Nat.add_mul n m kk
    by_cases hroom : n + m ≤ cap
    · have hle : (n + m) * kk ≤ cap * kk := Nat.mul_le_mul_right kk hroom
      have hnv : RvA w G h news (ys.flatten.map .e) := RvA.list (by rw [hs.size, hyl]) hnr
      obtain ⟨w', cs', q1, q2, q3, q4, q5⟩ := vec_write (P := P) (off := n * kk) (h' := fun j => if j = i then .vec true kk (ds.take (n * kk) ++ ys.flatten.map .e ++ ds.drop (n * kk + (ys.flatten.map D.e).length)) else h j) hi hb hcs hnv (by omega) (by rw [List.length_map, hyl]; omega)
        (fun j e => by simp [e]) (if_pos rfl)
      have hrun := run_app_room (ty := ty) ht hinf hk hs (a := some ⟨G.blk i, 0, none⟩) hroom (w' := w') (by simp only [addr_add, Nat.zero_add]; exact q1)
      have htk : (ds.take (n * kk) ++ ys.flatten.map D.e ++ ds.drop (n * kk + (ys.flatten.map D.e).length)).take ((n + m) * kk) = ds.take (n * kk) ++ ys.flatten.map D.e := by
        rw [List.take_append_of_le_length (by rw [List.length_append, List.length_map, hyl, List.length_take]; omega), List.take_of_length_le]
        rw [List.length_append, List.length_map, hyl, List.length_take]; omega
      obtain ⟨i1, x1⟩ := vec_move (m := (n + m) * kk) (f := f) (h' := fun j => if j = f then .vec (true || decide (0 < m)) kk (ds.take (n * kk) ++ ys.flatten.map .e) else if j = i then .gone else h j) q2 (if_pos rfl) (by show (if f = i then _ else _) = _; rw [if_neg (fun e => hif e.symm), hd])
        (fun j a b => by simp [a, b]) (by simp [hif]) (by simp only [if_true]; rw [htk]; rfl)
      refine ⟨_, _, _, hrun, i1, q3.trans x1, .vec (by simp) (by simp only [maxN]; omega) hroom fun b k' ds' e' => ?_⟩
      cases (if_pos rfl).symm.trans e'
      refine ⟨rfl, by rw [List.length_append, List.length_map, hyl, List.length_take]; omega, fun hb => (by cases hb), fun _ => ⟨by simp, cs', T, (0, 0), by simpa using q4, by omega⟩⟩
    · obtain ⟨uu, hu1, hu2⟩ := vec_cells hi hb
      have hlc := run_loadCells (P := P) w.drew ⟨G.blk i, 0, none⟩ (n * kk) uu (fun j hj => by rw [addr_add, Nat.zero_add]; simpa using hu1 j (by omega))
      refine grow _ (by omega) hlc (by simp) (fun j c d hc hd => ?_)
      rw [List.getElem?_take] at hd
      split at hd
      · rename_i hj
        simp [hj] at hc; subst hc
        exact hu2 j d hd
      · cases hd

theorem chunks {k : Nat} : ∀ (m : Nat) (l : List E), l.length = m * k → ∃ ys : List (List E), ys.length = m ∧ (∀ y ∈ ys, y.length = k) ∧ ys.flatten = l
  | 0, l, h => ⟨[], rfl, fun y hy => (by cases hy), (by simp at h; simp [h])⟩
  | m + 1, l, h => by
    rw [Nat.succ_mul] at h
    obtain ⟨ys, h1, h2, h3⟩ := chunks (k := k) m (l.drop k) (by rw [List.length_drop]; omega)
    refine ⟨l.take k :: ys, by simp [h1], fun y hy => ?_, by simp [h3]⟩
    rcases List.mem_cons.1 hy with rfl | hy
    · rw [List.length_take]; omega
    · exact h2 y hy

theorem rve_of {w : World} {G : Gh} {h : Hp} {x : Value} {d : E} (r : Rv w G h x (.e d)) : RvE w G.pub x d := by
  cases r with | e r => exact r

theorem src_vec {w : World} {G : Gh} {h : Hp} {u e : TypeId} {x : Value} {j m k k2 : Nat} {b2 : Bool} {ds2 : List D} (hu : P.underlying u = some (.slice e)) (hi : Inv w G h) (r : Rv w G h x (.vec j m k)) (hb : h j = .vec b2 k2 ds2)
    (hx : ∃ xs : List E, ds2.take (m * k) = xs.map .e) : ∃ (ys : List (List E)) (news : Array Value), ys.length = m ∧ (∀ y ∈ ys, y.length = k) ∧ ds2.take (m * k) = ys.flatten.map .e ∧ Src P w u k m x news ∧ ∀ (j : Nat) c d, news[j]? = some c → ys.flatten[j]? = some d → RvE w G.pub c d := by
  obtain ⟨a, cap, rfl, _, hm, hnc, hvo⟩ := rv_vec r
  obtain ⟨rfl, hlen, h0, h1⟩ := hvo _ _ _ hb
  obtain ⟨xs, hxs⟩ := hx
  have hxl : xs.length = m * k2 := by have := congrArg List.length hxs; rw [List.length_take, List.length_map] at this; omega
  obtain ⟨ys, c1, c2, c3⟩ := chunks m xs hxl
  subst c3
  cases b2 with
  | false =>
    obtain ⟨rfl, rfl, _⟩ := h0 rfl
    have : ys = [] := List.length_eq_zero_iff.1 c1
    subst this
    refine ⟨[], #[], rfl, c2, hxs, ⟨⟨_, hu, rfl⟩, rfl, ?_, ?_, by simp⟩, by simp⟩ <;> cases a <;> simp [Builtin.firstCells, loadCells, loadCellsFrom]
  | true =>
    obtain ⟨rfl, _⟩ := h1 rfl
    obtain ⟨uu, hu1, hu2⟩ := vec_cells hi hb
    refine ⟨ys, ((List.range (m * k2)).map uu).toArray, c1, c2, hxs, ⟨⟨_, hu, rfl⟩, rfl, run_loadCells w ⟨G.blk j, 0, none⟩ _ uu (fun j hj => by rw [addr_add, Nat.zero_add]; exact hu1 j (by omega)),
      run_loadCells w.drew ⟨G.blk j, 0, none⟩ _ uu (fun j hj => by rw [addr_add, Nat.zero_add]; simpa using hu1 j (by omega)), by simp⟩, fun j c d hc hd => ?_⟩
    have hj : j < m * k2 := by have := (Array.getElem?_eq_some_iff.1 hc).1; simpa using this
    simp [hj] at hc; subst hc
    have h3 : ds2[j]? = some (.e d) := by
      have := congrArg (·[j]?) hxs
      simp only [List.getElem?_take, if_pos hj, List.getElem?_map, hd] at this
      exact this
    exact rve_of (hu2 j _ h3).1

theorem happ_altc (h : Hp) (f : Nat) (d : Option D) (ob : O) (tc : List Nat) : happ h f { d := d, al := [ob], tc := tc } = fun i => if i = f then ob else h i := happ_al h f d ob

theorem s_app {t u e e' : TypeId} {inf : TypeInfo} {z : Value} {k : Nat} {ya yx : Operand} {a x : X} (ha : cvX ya = some a) (hx : cvX yx = some x) (ht : P.underlying t = some (.slice e)) (hu : P.underlying u = some (.slice e'))
    (hinf : P.info? e = some inf) (hk : P.cellsOf e = k) (hz : inf.zero = some z) (hzs : z.cells.size = k) (hby : inf.bytes ≤ 65536)
    (hk' : opE P ev hpR f dr gd g (.app k a x) K) : Sound P ⟨dst, .call { callee := .builtin .append, args := #[ya, yx], argTypes := #[t, u] }, ty, pos, after, gu⟩ ev hpR f gd g K := by
  have hk2 : inf.size = k := by rw [← hk]; simp [Program.cellsOf, hinf]
  simp only [opE] at hk'
  obtain ⟨hgd, hk'⟩ := hk'
  obtain ⟨o1, d1, hk1, h1⟩ := evG_spec hk'
  obtain ⟨o2, d2, hk2', h2⟩ := evG_spec hk1
  have run : ∀ {w w' : World} {r : Act} {v' : Value}, (Builtin.append_ #[t, u] ty #[r.eval ya, r.eval yx]).run P w = .ok v' w' →
      (execOp r.eval ⟨dst, .call { callee := .builtin .append, args := #[ya, yx], argTypes := #[t, u] }, ty, pos, after, gu⟩).run P w = .ok (.value v') w' := fun e => by
    simp [execOp, resolve, invoke, builtin, e, Result.andThen]
  split at hk2'
  case h_2 =>
    split at hk2'
    case h_2 => exact hk2'.elim
    rename_i j m kk _
    split at hk2'
    case h_2 => exact hk2'.elim
    rename_i b2 k2 ds2 hds2
    split at hk2'
    · -- an empty one
      refine ⟨_, _, hk2', fun hg => (by rw [hgd] at hg; cases hg), by simp, fun ⟨p1, p2, p3, p4, p5⟩ hg => ?_⟩
      intro w G h r K Q hi ht' hdd hr hK
      subst p3
      have hv := h1 (fun d' e => hr ya a d' ha e) hg p1
      have hb2 : h j = .vec b2 k2 ds2 := by rw [ht' j (by simp), hds2]
      have hd : h f = .dead := by simpa using hdd 0 (by simp)
      obtain ⟨ys, news, l1, l2, l3, hs, hnr⟩ := src_vec (u := u) hu hi (h2 (fun d' e => hr yx x d' hx e) hg p2) hb2 p4
      obtain ⟨aa, e1, hsp⟩ : ∃ aa, r.eval ya = .slice aa 0 0 ∧ ∀ y, aa = some y → y.spot = none := by
        generalize r.eval ya = z at hv
        cases hv with | zs ha => exact ⟨_, rfl, ha⟩
      rw [happ_altc] at hK
      have l3' : ([] : List D).take (0 * kk) ++ ds2.take (m * kk) = ys.flatten.map .e := by rw [l3]; simp
      rw [l3', Nat.zero_add, Bool.false_or] at hK
      rcases Nat.eq_zero_or_pos m with hm0 | hm0
      · subst hm0
        have : ys = [] := List.length_eq_zero_iff.1 l1
        subst this
        have hn0 : news = #[] := Array.eq_empty_of_size_eq_zero (by rw [hs.size, Nat.zero_mul])
        have hrun := run_app_room (ty := ty) ht hinf hk2 hs (a := aa) (n := 0) (cap := 0) (Nat.le_refl _) (w' := w) (by cases aa <;> simp [hn0, storeCells])
        obtain ⟨i1, x1⟩ := inv_none (i := f) (ob := .vec false kk []) hi (.inr ⟨kk, rfl⟩) (.inl hd)
        refine wp_of_run (run (by rw [e1]; exact hrun)) (hK _ w G (fun d' e' => ?_) i1 x1)
        cases e'
        refine .vec (by simp) (Nat.zero_le _) (Nat.le_refl _) fun b k' ds' e' => ?_
        cases (if_pos rfl).symm.trans e'
        exact ⟨rfl, by simp, fun _ => ⟨rfl, rfl, hsp⟩, fun hb => (by cases hb)⟩
      · obtain ⟨v', w', G', q1, q2, q3, q4⟩ := vec_grow (ty := ty) (ds0 := []) (n := 0) (cap := 0) (olds := #[]) (a := aa) hi hd ht hinf hk2 hz hzs hby hs l1 l2 hnr (by omega) (by omega)
          (by cases aa <;> simp [Builtin.firstCells, loadCells, loadCellsFrom]) (by simp) (by simp) (by simp)
        rw [List.nil_append] at q2 q3 q4
        rw [Nat.zero_add] at q4
        rw [decide_eq_true hm0] at hK
        exact wp_of_run (run (by rw [e1]; exact q1)) (hK v' w' G' (fun d' e' => by cases e'; exact q4) q2 q3)
    · rename_i i n k0
      split at hk2'
      case h_2 => exact hk2'.elim
      rename_i fl kk0 ds hds
      refine ⟨_, _, hk2', fun hg => (by rw [hgd] at hg; cases hg), by simp, fun ⟨p1, p2, p3, p3', p4, p5⟩ hg => ?_⟩
      intro w G h r K Q hi ht' hdd hr hK
      subst p3
      subst p3'
      have hv := h1 (fun d' e => hr ya a d' ha e) hg p1
      have hb2 : h j = .vec b2 k2 ds2 := by rw [ht' j (by simp), hds2]
      have hb : h i = .vec fl kk0 ds := by rw [ht' i (by simp), hds]
      obtain ⟨ys, news, l1, l2, l3, hs, hnr⟩ := src_vec (u := u) hu hi (h2 (fun d' e => hr yx x d' hx e) hg p2) hb2 p4
      obtain ⟨v', w', G', q1, q2, q3, q4⟩ := vec_app (ty := ty) hi (by simpa using hdd 0 (by simp)) ht hinf hk2 hz hzs hby hs l1 l2 hnr p5 hb hv
      rw [happ_alwr, l3] at hK
      exact wp_of_run (run q1) (hK v' w' G' (fun d' e' => by cases e'; exact q4) q2 q3)
    · exact hk2'.elim
  rename_i ys hys
  split at hk2'
  · rcases hk2' with hk2' | hk2'
    case inr =>
      refine Sound.al hgd hk2' fun ⟨p1, p2, p3, p4⟩ hg w G h r hi hd hr => ?_
      have hv := h1 (fun d' e => hr ya a d' ha e) hg p1
      obtain ⟨news, hs, hnr⟩ := src_list hu (h2 (fun d' e => hr yx x d' hx e) hg p2) hys (allLen_iff.1 p4)
      obtain ⟨aa, e1, hsp⟩ : ∃ aa, r.eval ya = .slice aa 0 0 ∧ ∀ y, aa = some y → y.spot = none := by
        generalize r.eval ya = z at hv
        cases hv with | zs ha => exact ⟨_, rfl, ha⟩
      rcases Nat.eq_zero_or_pos ys.length with hm0 | hm0
      · have : ys = [] := List.length_eq_zero_iff.1 hm0
        subst this
        have hn0 : news = #[] := Array.eq_empty_of_size_eq_zero (by rw [hs.size, List.length_nil, Nat.zero_mul])
        have hrun := run_app_room (ty := ty) ht hinf hk2 hs (a := aa) (n := 0) (cap := 0) (Nat.le_refl _) (w' := w) (by cases aa <;> simp [hn0, storeCells])
        obtain ⟨i1, x1⟩ := inv_none (i := f) (ob := .vec false k []) hi (.inr ⟨k, rfl⟩) (.inl hd)
        refine ⟨_, _, _, run (by rw [e1]; exact hrun), i1, x1, .vec (by simp) (Nat.zero_le _) (Nat.le_refl _) fun b k' ds' e' => ?_⟩
        cases (if_pos rfl).symm.trans e'
        exact ⟨rfl, by simp, fun _ => ⟨rfl, rfl, hsp⟩, fun hb => (by cases hb)⟩
      · obtain ⟨v', w', G', q1, q2, q3, q4⟩ := vec_grow (ty := ty) (ds0 := []) (n := 0) (cap := 0) (olds := #[]) (a := aa) hi hd ht hinf hk2 hz hzs hby hs rfl (allLen_iff.1 p4) hnr (by omega) (by omega)
          (by cases aa <;> simp [Builtin.firstCells, loadCells, loadCellsFrom]) (by simp) (by simp) (by simp)
        rw [List.nil_append] at q2 q3 q4
        rw [Nat.zero_add] at q4
        rw [decide_eq_true hm0]
        exact ⟨v', w', G', run (by rw [e1]; exact q1), q2, q3, q4⟩
    refine Sound.al hgd hk2' fun ⟨p1, p2, p3, p4⟩ hg w G h r hi hd hr => ?_
    have hv := h1 (fun d' e => hr ya a d' ha e) hg p1
    obtain ⟨news, hs, hnr⟩ := src_list hu (h2 (fun d' e => hr yx x d' hx e) hg p2) hys (allLen_iff.1 p4)
    obtain ⟨v', w', G', q1, q2, q3, q4⟩ := app_core (ty := ty) (i := f) (n := 0) (es := []) (v := r.eval ya) hi ht hinf hk2 hz hzs hby hs rfl (allLen_iff.1 p4) hnr rfl (by omega) (.inl ⟨rfl, by
      generalize r.eval ya = z at hv
      cases hv with | zs ha => exact ⟨_, rfl, ha⟩, .inl hd⟩)
    rw [Nat.zero_add] at q2 q3 q4
    rw [List.nil_append] at q4
    exact ⟨v', w', G', run q1, q2, q3, q4⟩
  · rename_i i n k0
    split at hk2'
    case h_2 => exact hk2'.elim
    rename_i fl kk ds hds
    refine ⟨_, _, hk2', fun hg => (by rw [hgd] at hg; cases hg), by simp, fun ⟨p1, p2, p3, p4, p5⟩ hg => ?_⟩
    intro w G h r K Q hi ht' hdd hr hK
    subst p3
    have hv := h1 (fun d' e => hr ya a d' ha e) hg p1
    obtain ⟨news, hs, hnr⟩ := src_list hu (h2 (fun d' e => hr yx x d' hx e) hg p2) hys (allLen_iff.1 p5)
    have hb : h i = .vec fl kk ds := by rw [ht' i (by simp), hds]
    obtain ⟨v', w', G', q1, q2, q3, q4⟩ := vec_app (ty := ty) hi (by simpa using hdd 0 (by simp)) ht hinf hk2 hz hzs hby hs rfl (allLen_iff.1 p5) hnr p4 hb hv
    rw [happ_alwr] at hK
    exact wp_of_run (run q1) (hK v' w' G' (fun d' e' => by cases e'; exact q4) q2 q3)
  · rename_i i es
    refine ⟨_, _, hk2', fun hg => (by rw [hgd] at hg; cases hg), by simp, fun ⟨p1, p2, p3, p4, p5⟩ hg => ?_⟩
    intro w G h r K Q hi ht' _ hr hK
    have hv := h1 (fun d' e => hr ya a d' ha e) hg p1
    obtain ⟨news, hs, hnr⟩ := src_list hu (h2 (fun d' e => hr yx x d' hx e) hg p2) hys (allLen_iff.1 p4)
    have hb : h i = .front es.length k := by rw [ht' i (by simp), p5]
    obtain ⟨v', w', G', q1, q2, q3, q4⟩ := app_core (ty := ty) (i := i) (n := es.length) (es := es) (v := r.eval ya) hi ht hinf hk2 hz hzs hby hs rfl (allLen_iff.1 p4) hnr rfl p3 (by
      rcases Nat.eq_zero_or_pos es.length with h0 | h0
      · have : es = [] := List.length_eq_zero_iff.1 h0
        subst this
        refine .inl ⟨rfl, ?_, .inr hb⟩
        generalize r.eval ya = z at hv
        cases hv with
        | own hx' hek htk =>
          obtain ⟨N, hN, _, hcase⟩ := htk
          rw [hb] at hN
          simp only [O.front.injEq] at hN
          obtain ⟨rfl, rfl⟩ := hN
          rcases hcase rfl with ⟨_, hq⟩ | ⟨h0, _⟩
          · exact hq
          · exact absurd h0 (Nat.lt_irrefl _)
      · exact .inr ⟨hb, hv, h0⟩)
    rw [happ_wr] at hK
    exact wp_of_run (run q1) (hK v' w' G' (fun d' e' => by cases e'; exact q4) q2 q3)
  · exact hk2'.elim

theorem s_apps {t u e : TypeId} {inf : TypeInfo} {z : Value} {ya yx : Operand} {a x : X} (ha : cvX ya = some a) (hx : cvX yx = some x) (ht : P.underlying t = some (.slice e)) (hu : P.underlying u = some .string)
    (hinf : P.info? e = some inf) (hk : P.cellsOf e = 1) (hz : inf.zero = some z) (hzs : z.cells.size = 1) (hby : inf.bytes ≤ 65536)
    (hk' : opE P ev hpR f dr gd g (.apps a x) K) : Sound P ⟨dst, .call { callee := .builtin .append, args := #[ya, yx], argTypes := #[t, u] }, ty, pos, after, gu⟩ ev hpR f gd g K := by
  have hk2 : inf.size = 1 := by rw [← hk]; simp [Program.cellsOf, hinf]
  simp only [opE] at hk'
  obtain ⟨hgd, hk'⟩ := hk'
  obtain ⟨o1, d1, hk1, h1⟩ := evG_spec hk'
  obtain ⟨o2, d2, hk2', h2⟩ := evG_spec hk1
  split at hk2'
  case h_2 => exact hk2'.elim
  rename_i s
  have run : ∀ {w w' : World} {r : Act} {v' : Value}, (Builtin.append_ #[t, u] ty #[r.eval ya, r.eval yx]).run P w = .ok v' w' →
      (execOp r.eval ⟨dst, .call { callee := .builtin .append, args := #[ya, yx], argTypes := #[t, u] }, ty, pos, after, gu⟩).run P w = .ok (.value v') w' := fun e => by
    simp [execOp, resolve, invoke, builtin, e, Result.andThen]
  have hyk : ∀ y ∈ bytesE s.data.toList, y.length = 1 := fun e he => by
    obtain ⟨b, _, rfl⟩ := List.mem_map.1 he; rfl
  have hyl : (bytesE s.data.toList).length = s.data.toList.length := List.length_map _
  rw [hyl] at hk2'
  split at hk2'
  · refine Sound.al hgd hk2' fun ⟨p1, p2, p3, _⟩ hg w G h r hi hd hr => ?_
    have hv := h1 (fun d' e => hr ya a d' ha e) hg p1
    obtain ⟨e1, _⟩ := rv_v (h2 (fun d' e => hr yx x d' hx e) hg p2)
    obtain ⟨news, hs, hnr⟩ := src_str (P := P) (w := w) (pub := G.pub) (s := s) hu
    rw [← e1] at hs
    obtain ⟨v', w', G', q1, q2, q3, q4⟩ := app_core (ty := ty) (i := f) (n := 0) (es := []) (v := r.eval ya) hi ht hinf hk2 hz hzs hby hs hyl hyk hnr rfl (by omega) (.inl ⟨rfl, by
      generalize r.eval ya = z at hv
      cases hv with | zs ha => exact ⟨_, rfl, ha⟩, .inl hd⟩)
    rw [Nat.zero_add] at q2 q3 q4
    rw [List.nil_append] at q4
    exact ⟨v', w', G', run q1, q2, q3, q4⟩
  · rename_i i es
    refine ⟨_, _, hk2', fun hg => (by rw [hgd] at hg; cases hg), by simp, fun ⟨p1, p2, p3, _, p5⟩ hg => ?_⟩
    intro w G h r K Q hi ht' _ hr hK
    have hv := h1 (fun d' e => hr ya a d' ha e) hg p1
    obtain ⟨e1, _⟩ := rv_v (h2 (fun d' e => hr yx x d' hx e) hg p2)
    obtain ⟨news, hs, hnr⟩ := src_str (P := P) (w := w) (pub := G.pub) (s := s) hu
    rw [← e1] at hs
    have hb : h i = .front es.length 1 := by rw [ht' i (by simp), p5]
    obtain ⟨v', w', G', q1, q2, q3, q4⟩ := app_core (ty := ty) (i := i) (n := es.length) (es := es) (v := r.eval ya) hi ht hinf hk2 hz hzs hby hs hyl hyk hnr rfl p3 (by
      rcases Nat.eq_zero_or_pos es.length with h0 | h0
      · have : es = [] := List.length_eq_zero_iff.1 h0
        subst this
        refine .inl ⟨rfl, ?_, .inr hb⟩
        generalize r.eval ya = z at hv
        cases hv with
        | own hx' hek htk =>
          obtain ⟨N, hN, _, hcase⟩ := htk
          rw [hb] at hN
          simp only [O.front.injEq] at hN
          obtain ⟨rfl, rfl⟩ := hN
          rcases hcase rfl with ⟨_, hq⟩ | ⟨h0, _⟩
          · exact hq
          · exact absurd h0 (Nat.lt_irrefl _)
      · exact .inr ⟨hb, hv, h0⟩)
    rw [happ_wr] at hK
    exact wp_of_run (run q1) (hK v' w' G' (fun d' e' => by cases e'; exact q4) q2 q3)
  · exact hk2'.elim

theorem Rv.pl {w G h} {v : Value} {d : D} (r : Rv w G h v d) : Rv w G h v d.pl := by
  cases r with
  | own hx _ _ => exact .e hx
  | zs ha => exact .e (empty_sl ha fun _ => rfl)
  | agg hl h1 hr =>
    refine .agg (by simp [hl]) h1 fun j c d hc hd => ?_
    simp only [List.getElem?_map, Option.map_eq_some_iff] at hd
    obtain ⟨d', hd, rfl⟩ := hd
    have := hr j c d' hc hd
    split
    · cases this with | own hx _ _ => exact .e hx
    · cases this with | zs ha => exact .e (empty_sl ha fun _ => rfl)
    · exact this
  | e h => exact .e h
  | bs a b c d => exact .bs a b c d
  | rp u a b => exact .rp u a b
  | ref a => exact .ref a
  | refs a => exact .refs a
  | tup a b => exact .tup a b
  | when a b => exact .when a b
  | fn a b c d => exact .fn a b c d
  | vec a b c d => exact .vec a b c d
  | vref a b => exact .vref a b
  | mp a => exact .mp a
  | any => exact .any

theorem Wks.rel {w G h} : ∀ {ds ds' : List D}, Wks ds ds' → ds'.length = ds.length ∧ ∀ (j : Nat) v d', ds'[j]? = some d' → (∀ d, ds[j]? = some d → Rv w G h v d) → Rv w G h v d' := by
  intro ds
  induction ds with
  | nil => intro ds' h; cases ds' with | nil => exact ⟨rfl, by simp⟩ | cons _ _ => exact h.elim
  | cons d r ih =>
    intro ds' h
    cases ds' with
    | nil => exact h.elim
    | cons d' r' =>
      obtain ⟨h1, h2⟩ := h
      obtain ⟨i1, i2⟩ := ih h2
      refine ⟨by simp [i1], fun j v x hx hv => ?_⟩
      cases j with
      | zero =>
        simp at hx; subst hx
        rcases h1 with rfl | rfl
        · exact hv d' rfl
        · exact (hv d rfl).pl
      | succ j => exact i2 j v x (by simpa using hx) (fun y hy => hv y (by simpa using hy))

/-- A call is what its contract says. -/
theorem call_step {o : Oper} {fn : FuncId} {ds ds' : List D} {pre : List (Nat × O)} {eff eff' : Eff} {d : D}
    (hw : Wks ds ds') (hce : CallE P fn ds' pre f eff) (hpre : ∀ i ob, (i, ob) ∈ pre → hpR i = ob) (htc : eff.tc = pre.map (·.1)) (hd : eff.d = some d) (he : eff' = { eff with d := some (if gd then .when true d else d) })
    (hen : ∀ w G h a, Rel ev w G h a → ∃ vs, (execOp a.eval o).run P w = .ok (.enter fn vs) w ∧ vs.size = ds.length ∧ ∀ (j : Nat) v d, vs[j]? = some v → ds[j]? = some d → Rv w G h v d) : StepL P o ev hpR f eff' := by
  subst he
  intro w G h a K Q hi ht hdead hrel hk
  obtain ⟨vs, he, h1, h2⟩ := hen w G h a hrel
  obtain ⟨w1, w2⟩ := hw.rel (w := w) (G := G) (h := h)
  have hc := hce w G h (happ h f eff) vs hi (fun i ob hm => by rw [ht i (by simp [htc]; exact ⟨ob, hm⟩), hpre i ob hm]) hdead (fun i => rfl) (by rw [h1, w1]) (fun j v d hv hd => w2 j v d hd (fun y hy => h2 j v y hv hy))
  unfold Oper.wp
  rw [he]
  refine hc.mono ?_
  rintro e w' ⟨v, d', G', rfl, hd', r, i', x'⟩
  rw [hd] at hd'; cases hd'
  refine hk v w' G' (fun d'' e'' => ?_) i' x'
  cases e''
  split
  · exact Rv.when_true r
  · exact r

theorem run_call {w : World} {fn : FuncId} {func : Func} {args : Array Value} (hf : P.funcs[fn]? = some func) (hn : func.name ≠ "runtime.NumGoroutine") (hb : func.body.isNone = false) : (callFunc fn args).run P w = .ok (.enter fn args) w := by
  obtain ⟨c, hc⟩ : ∃ c, func.body = some c := by cases h : func.body <;> simp_all
  simp [callFunc, hf, hn, hc]

theorem s_call {fn : FuncId} {func : Func} {ys : Array Operand} {xs : List X} {ts : Array TypeId} (hf : P.funcs[fn]? = some func) (hn : func.name ≠ "runtime.NumGoroutine") (hb : func.body.isNone = false) (hx : xs? ys.toList = some xs)
    (hk : opE P ev hpR f dr gd g (.call fn xs) K) : Sound P ⟨dst, .call { callee := .value (.func fn), args := ys, argTypes := ts }, ty, pos, after, gu⟩ ev hpR f gd g K := by
  simp only [opE] at hk
  obtain ⟨o1, ds, hk1, hl, h1⟩ := evGs_spec hk
  obtain ⟨ds', pre, eff, hw, hce, hpre, hgal, hwr, htc, d, hd, hK⟩ := hk1
  refine ⟨_, _, hK, fun hg => ?_, fun x hx => by simp only [htc]; exact hwr x hx, fun ho hg => ?_⟩
  · obtain ⟨e1, e2⟩ := hgal hg
    exact ⟨e1, e2, d, by rw [if_pos hg]⟩
  · subst hg
    refine call_step (gd := gd) (pre := pre) (eff := eff) hw (hce rfl ho) hpre htc hd rfl (fun w G h a hr => ?_)
    obtain ⟨q1, q2⟩ := rel_list hx hl h1 hr rfl ho
    exact ⟨ys.map a.eval, by simp [execOp, resolve, invoke, Deferred.ofValue, Act.eval, run_call hf hn hb], q1, q2⟩

theorem s_callv {fn : Operand} {x : X} {ys : Array Operand} {xs : List X} {ts : Array TypeId} (hy : cvX fn = some x) (hx : xs? ys.toList = some xs)
    (hk : opE P ev hpR f dr gd g (.callv x xs) K) : Sound P ⟨dst, .call { callee := .value fn, args := ys, argTypes := ts }, ty, pos, after, gu⟩ ev hpR f gd g K := by
  simp only [opE] at hk
  obtain ⟨o1, d1, hk1, h1⟩ := evG_spec hk
  obtain ⟨o2, ds, hk2, hl, h2⟩ := evGs_spec hk1
  split at hk2
  case h_2 => exact hk2.elim
  rename_i fid a c
  obtain ⟨⟨func, hf, hn, hb⟩, ds', pre, eff, hw, hce, hpre, hgal, hwr, htc, d, hd, hK⟩ := hk2
  refine ⟨_, _, hK, fun hg => ?_, fun x hx => by simp only [htc]; exact hwr x hx, fun ⟨p1, p2⟩ hg => ?_⟩
  · obtain ⟨e1, e2⟩ := hgal hg
    exact ⟨e1, e2, d, by rw [if_pos hg]⟩
  · subst hg
    refine call_step (gd := gd) (pre := pre) (eff := eff) hw (hce rfl ⟨p1, p2⟩) hpre htc hd rfl (fun w G h r hr => ?_)
    obtain ⟨q1, q2⟩ := rel_list hx hl h2 hr rfl p2
    have hv := h1 (fun d' e => hr fn x d' hy e) rfl p1
    generalize hz : r.eval fn = z at hv
    cases hv with
    | fn e1 e2 e3 e4 =>
      rename_i first caps
      refine ⟨first ++ ys.map r.eval ++ caps, by simp [execOp, resolve, invoke, Deferred.ofValue, hz, run_call hf hn hb, Result.andThen], by simp at q1 ⊢; omega, fun j v d hv hd => ?_⟩
      by_cases j1 : j < a.length
      · rw [Array.append_assoc, Array.getElem?_append_left (by omega)] at hv
        rw [List.append_assoc, List.getElem?_append_left j1] at hd
        exact e2 j v d hv hd
      · rw [Array.append_assoc, Array.getElem?_append_right (by omega), e1] at hv
        rw [List.append_assoc, List.getElem?_append_right (by omega)] at hd
        by_cases j2 : j - a.length < ds.length
        · rw [Array.getElem?_append_left (by omega)] at hv
          rw [List.getElem?_append_left j2] at hd
          exact q2 _ v d hv hd
        · rw [Array.getElem?_append_right (by omega), q1] at hv
          rw [List.getElem?_append_right (by omega)] at hd
          exact e4 _ v d hv hd

/-! ### Maps -/
/-- A new map. -/
theorem map_alloc {w : World} {G : Gh} {h : Hp} {f : Nat} (hi : Inv w G h) (hd : h f = .dead) :
    Inv (w.alloc (.map #[] 0)) (G.new w.heap.size (fun _ => False) f) (fun i => if i = f then .smap [] else h i) ∧ Ext w G h (w.alloc (.map #[] 0)) (G.new w.heap.size (fun _ => False) f) (fun i => if i = f then .smap [] else h i) := by
  have hb : ∀ i, i ≠ f → (G.new w.heap.size (fun _ => False) f).blk i = G.blk i := fun i e => by simp [Gh.new, e]
  have hbf : (G.new w.heap.size (fun _ => False) f).blk f = w.heap.size := by simp [Gh.new]
  have hold : ∀ b, b < w.heap.size → (w.alloc (.map #[] 0)).heap[b]? = w.heap[b]? := fun b e => (MapKept.heap_alloc w _).2 b e
  have nf : ∀ {i ob}, h i = ob → ob ≠ .dead → i ≠ f := fun e1 e2 e3 => e2 (by rw [← e1, e3, hd])
  have ext : Ext w G h (w.alloc (.map #[] 0)) (G.new w.heap.size (fun _ => False) f) (fun i => if i = f then .smap [] else h i) := {
    os := rfl
    tape := rfl
    output := rfl
    size := by simp
    pub := fun b o p => ⟨.inl p, World.cell?_alloc_lt _ _ _ (hi.publt b o p)⟩
    box := fun i ds e => by
      have := nf e (by simp)
      exact ⟨⟨ds, by rw [if_neg this, e], rfl⟩, hb i this⟩
    tok := fun i n k e => by
      have := nf e (by simp)
      exact ⟨n, by rw [if_neg this, e], Nat.le_refl _, fun _ hn => ⟨hb i this, by simp only [World.shape?]; rw [hold _ (hi.lt i (by rw [e]; simp [O.has, hn]))]⟩⟩
    others := fun b hb' _ => hold b hb'
    new := fun i hi' => by
      by_cases e : i = f
      · subst e; exact .inr (by rw [hbf]; exact Nat.le_refl _)
      · simp only [if_neg e] at hi'; exact .inl ⟨i, hi', hb i e⟩
    pubnew := fun b o p => by
      rcases p with p | ⟨_, p⟩
      · exact .inl p
      · exact p.elim
    vec := fun i b k ds e => by
      have := nf e (by simp)
      exact .inr ⟨ds, by rw [if_neg this, e], Nat.le_refl _, fun hb' => ⟨hb i this, by simp only [World.shape?]; rw [hold _ (hi.lt i (by rw [e]; exact hb'))]⟩⟩
    gone := fun i e => by
      have := nf e (by simp)
      rw [if_neg this, e]
    smap := fun i l e => by
      have := nf e (by simp)
      exact ⟨⟨l, by rw [if_neg this, e]⟩, hb i this⟩ }
  have pb : ∀ i o, i ≠ f → (¬ G.pub (G.blk i) o) → ¬ (G.new w.heap.size (fun _ => False) f).pub ((G.new w.heap.size (fun _ => False) f).blk i) o := fun i o e np p => by
    rw [hb i e] at p
    rcases p with p | ⟨_, p⟩
    · exact np p
    · exact p
  refine ⟨{ lt := fun i hi' => ?_, inj := fun i j h1 h2 e => ?_, publt := fun b o p => ?_, box := fun i ds e => ?_, front := fun i n k e hn => ?_, vec := fun i b k ds e => ?_, smap := fun i l e => ?_ }, ext⟩
  · by_cases e : i = f
    · subst e; rw [hbf]; simp
    · rw [if_neg e] at hi'; rw [hb i e]; have := hi.lt i hi'; simp; omega
  · by_cases e1 : i = f <;> by_cases e2 : j = f
    · rw [e1, e2]
    · subst e1; rw [hbf, hb j e2] at e; rw [if_neg e2] at h2; have := hi.lt j h2; omega
    · subst e2; rw [hbf, hb i e1] at e; rw [if_neg e1] at h1; have := hi.lt i h1; omega
    · rw [hb i e1, hb j e2] at e; rw [if_neg e1] at h1; rw [if_neg e2] at h2; exact hi.inj i j h1 h2 e
  · rcases p with p | ⟨_, p⟩
    · have := hi.publt b o p; simp; omega
    · exact p.elim
  · by_cases e1 : i = f
    · rw [if_pos e1] at e; cases e
    · rw [if_neg e1] at e
      obtain ⟨p1, cs', T', p2, p3, p4⟩ := hi.box i ds e
      refine ⟨fun o => pb i o e1 (p1 o), cs', T', by rw [hb i e1, hold _ (hi.lt i (by rw [e]; rfl))]; exact p2, p3, fun j c d a b => ⟨(p4 j c d a b).1.ext ext, (p4 j c d a b).2⟩⟩
  · by_cases e1 : i = f
    · rw [if_pos e1] at e; cases e
    · rw [if_neg e1] at e
      obtain ⟨⟨cs', T', p2⟩, p3⟩ := hi.front i n k e hn
      exact ⟨⟨cs', T', by rw [hb i e1, hold _ (hi.lt i (by rw [e]; simp [O.has, hn]))]; exact p2⟩, fun o ho => pb i o e1 (p3 o ho)⟩
  · by_cases e1 : i = f
    · rw [if_pos e1] at e; cases e
    · rw [if_neg e1] at e
      obtain ⟨p0, p⟩ := hi.vec i b k ds e
      refine ⟨p0, fun hb' => ?_⟩
      obtain ⟨p1, cs', T', p2, p3, p4⟩ := p hb'
      exact ⟨fun o => pb i o e1 (p1 o), cs', T', by rw [hb i e1, hold _ (hi.lt i (by rw [e]; exact hb'))]; exact p2, p3, fun j c d a b => ⟨(p4 j c d a b).1.ext ext, (p4 j c d a b).2⟩⟩
  · by_cases e1 : i = f
    · rw [if_pos e1] at e; cases e
      refine ⟨fun o p => ?_, #[], 0, ?_, rfl, fun j e p a _ => by simp at a⟩
      · rw [e1, hbf] at p
        rcases p with p | ⟨_, p⟩
        · have := hi.publt _ o p; omega
        · exact p
      · rw [e1, hbf]; exact (MapKept.heap_alloc w _).1
    · rw [if_neg e1] at e
      obtain ⟨p1, es, ck, p2, p3, p4⟩ := hi.smap i l e
      exact ⟨fun o => pb i o e1 (p1 o), es, ck, by rw [hb i e1, hold _ (hi.lt i (by rw [e]; rfl))]; exact p2, p3, fun j e p a b => ⟨(p4 j e p a b).1, (p4 j e p a b).2.mono ext.pub⟩⟩

/-- A map is written. -/
theorem map_write {w : World} {G : Gh} {h : Hp} {i ck : Nat} {l l' : List (List UInt8 × E)} {es : Array MapEntry} (hi : Inv w G h) (hb : h i = .smap l) (hs : es.size = l'.length)
    (hr : ∀ (j : Nat) e p, es[j]? = some e → l'[j]? = some p → e.key = .string ⟨⟨p.1⟩⟩ ∧ RvE w G.pub e.val p.2) :
    Inv { w with heap := w.heap.setIfInBounds (G.blk i) (.map es ck) } G (fun j => if j = i then .smap l' else h j) ∧ Ext w G h { w with heap := w.heap.setIfInBounds (G.blk i) (.map es ck) } G (fun j => if j = i then .smap l' else h j) := by
  obtain ⟨hnp, es0, ck0, hc, _, _⟩ := hi.smap i l hb
  have hset := MapKept.heap_set (o' := .map es ck) hc
  have hrow := hset.1
  have hoth := hset.2
  have hib : (h i).has = true := by rw [hb]; rfl
  have hne : ∀ j, (h j).has = true → j ≠ i → G.blk j ≠ G.blk i := fun j hj e e' => e (hi.inj j i hj hib e')
  have ni : ∀ {j ob}, h j = ob → (∀ l, ob ≠ .smap l) → j ≠ i := fun e1 e2 e3 => e2 l (by rw [← e1, e3, hb])
  have ext : Ext w G h { w with heap := w.heap.setIfInBounds (G.blk i) (.map es ck) } G (fun j => if j = i then .smap l' else h j) := {
    os := rfl
    tape := rfl
    output := rfl
    size := by simp
    pub := fun b o p => ⟨p, World.cell?_of_block (hoth b (fun e => hnp o (e ▸ p)))⟩
    box := fun j ds e => by
      have := ni e (by simp)
      exact ⟨⟨ds, by rw [if_neg this, e], rfl⟩, rfl⟩
    tok := fun j n k e => by
      have := ni e (by simp)
      exact ⟨n, by rw [if_neg this, e], Nat.le_refl _, fun _ hn => ⟨rfl, by simp only [World.shape?]; rw [hoth _ (hne j (by rw [e]; simp [O.has, hn]) this)]⟩⟩
    others := fun b hb' ho => hoth b (fun e => ho i hib e.symm)
    new := fun j hj => by
      by_cases e : j = i
      · subst e; exact .inl ⟨j, hib, rfl⟩
      · simp only [if_neg e] at hj; exact .inl ⟨j, hj, rfl⟩
    pubnew := fun b o p => .inl p
    vec := fun j b k ds e => by
      have := ni e (by simp)
      exact .inr ⟨ds, by rw [if_neg this, e], Nat.le_refl _, fun hb' => ⟨rfl, by simp only [World.shape?]; rw [hoth _ (hne j (by rw [e]; exact hb') this)]⟩⟩
    gone := fun j e => by
      have := ni e (by simp)
      rw [if_neg this, e]
    smap := fun j l2 e => by
      by_cases e2 : j = i
      · exact ⟨⟨l', if_pos e2⟩, rfl⟩
      · exact ⟨⟨l2, by rw [if_neg e2, e]⟩, rfl⟩ }
  have hhas : ∀ j, O.has (if j = i then .smap l' else h j) = true → (h j).has = true := fun j hj => by
    by_cases e : j = i
    · rw [e]; exact hib
    · rw [if_neg e] at hj; exact hj
  refine ⟨{ lt := fun j hj => (by have := hi.lt j (hhas j hj); simpa using this), inj := fun a b p q e => hi.inj a b (hhas a p) (hhas b q) e, publt := fun b o p => (by have := hi.publt b o p; simpa using this), box := fun j ds e => ?_, front := fun j n k e hn => ?_,
            vec := fun j b k ds e => ?_, smap := fun j l2 e => ?_ }, ext⟩
  · by_cases e1 : j = i
    · rw [if_pos e1] at e; cases e
    · rw [if_neg e1] at e
      obtain ⟨p1, cs', T', p2, p3, p4⟩ := hi.box j ds e
      exact ⟨p1, cs', T', (hoth _ (hne j (by rw [e]; rfl) e1)).trans p2, p3, fun j c d a b => ⟨(p4 j c d a b).1.ext ext, (p4 j c d a b).2⟩⟩
  · by_cases e1 : j = i
    · rw [if_pos e1] at e; cases e
    · rw [if_neg e1] at e
      obtain ⟨⟨cs', T', p2⟩, p3⟩ := hi.front j n k e hn
      exact ⟨⟨cs', T', (hoth _ (hne j (by rw [e]; simp [O.has, hn]) e1)).trans p2⟩, p3⟩
  · by_cases e1 : j = i
    · rw [if_pos e1] at e; cases e
    · rw [if_neg e1] at e
      obtain ⟨p0, p⟩ := hi.vec j b k ds e
      refine ⟨p0, fun hb' => ?_⟩
      obtain ⟨p1, cs', T', p2, p3, p4⟩ := p hb'
      exact ⟨p1, cs', T', (hoth _ (hne j (by rw [e]; exact hb') e1)).trans p2, p3, fun j c d a b => ⟨(p4 j c d a b).1.ext ext, (p4 j c d a b).2⟩⟩
  · by_cases e1 : j = i
    · rw [if_pos e1] at e; cases e
      subst e1
      exact ⟨hnp, es, ck, hrow, hs, fun j e p a b => ⟨(hr j e p a b).1, (hr j e p a b).2.mono ext.pub⟩⟩
    · rw [if_neg e1] at e
      obtain ⟨p1, es2, ck2, p2, p3, p4⟩ := hi.smap j l2 e
      exact ⟨p1, es2, ck2, (hoth _ (hne j (by rw [e]; rfl) e1)).trans p2, p3, fun j e p a b => ⟨(p4 j e p a b).1, (p4 j e p a b).2.mono ext.pub⟩⟩

theorem rv_mp {w G h x} {i : Nat} (r : Rv w G h x (.mp i)) : x = .map (some (G.blk i)) ∧ ∃ l, h i = .smap l := by
  cases r with | mp hb => exact ⟨rfl, _, hb⟩

theorem find_list {w : World} {pub : Nat → Nat → Prop} {k : List UInt8} : ∀ (es : List MapEntry) (l : List (List UInt8 × E)) (i : Nat), es.length = l.length →
    (∀ (j : Nat) e p, es[j]? = some e → l[j]? = some p → e.key = .string ⟨⟨p.1⟩⟩ ∧ RvE w pub e.val p.2) →
    (Instr.findNow .string (.string ⟨⟨k⟩⟩) es i = some none ∧ mlook l k = none ∧ ∀ v, mset l k v = l ++ [(k, v)]) ∨
    ∃ j e v0, Instr.findNow .string (.string ⟨⟨k⟩⟩) es i = some (some (i + j, e.val)) ∧ es[j]? = some e ∧ l[j]? = some (k, v0) ∧ mlook l k = some v0 ∧ ∀ v, mset l k v = l.set j (k, v)
  | [], [], _, _, _ => .inl ⟨rfl, rfl, fun _ => rfl⟩
  | [], _ :: _, _, h, _ => by simp at h
  | _ :: _, [], _, h, _ => by simp at h
  | e :: es, p :: l, i, h, hr => by
    obtain ⟨h1, h2⟩ := hr 0 e p rfl rfl
    by_cases hk : p.1 = k
    · refine .inr ⟨0, e, p.2, ?_, rfl, by rw [← hk]; rfl, by simp [mlook, hk], fun v => by simp [mset, hk]⟩
      have : Instr.sameNow .string (.string ⟨⟨k⟩⟩) e.key = some true := by
        rw [h1, hk]
        simp only [Instr.sameNow]
        rw [(MapKept.bytes_beq _ _).2 rfl]
      simp [Instr.findNow, this]
    · have : Instr.sameNow .string (.string ⟨⟨k⟩⟩) e.key = some false := by
        rw [h1]
        simp only [Instr.sameNow]
        congr 1
        rw [Bool.eq_false_iff]
        intro e
        have := (MapKept.bytes_beq _ _).1 e
        simp only [ByteArray.mk.injEq, Array.mk.injEq] at this
        exact hk this.symm
      rcases find_list (k := k) es l (i + 1) (by simpa using h) (fun j e p a b => hr (j + 1) e p (by simpa using a) (by simpa using b)) with ⟨q1, q2, q3⟩ | ⟨j, e', v0, q1, q2, q3, q4, q5⟩
      · exact .inl ⟨by simp [Instr.findNow, this, q1], by simp [mlook, hk, q2], fun v => by simp [mset, hk, q3 v]⟩
      · exact .inr ⟨j + 1, e', v0, by simp [Instr.findNow, this, q1]; omega, by simpa using q2, by simpa using q3, by simp [mlook, hk, q4], fun v => by simp [mset, hk, q5 v]⟩

theorem s_mkm {t : TypeId} (hk : opE P ev hpR f dr gd g .mkm K) : Sound P ⟨dst, .makeMap t none, ty, pos, after, gu⟩ ev hpR f gd g K := by
  simp only [opE] at hk
  obtain ⟨hgd, hk⟩ := hk
  refine Sound.al hgd hk fun _ hg w G h r hi hd hr => ?_
  obtain ⟨i1, x1⟩ := map_alloc hi hd
  refine ⟨.map (some w.heap.size), _, _, exec_v (w' := w.alloc (.map #[] 0)) (by simp [Instr.makeMap, Result.andThen]), i1, x1, ?_⟩
  have := Rv.mp (w := w.alloc (.map #[] 0)) (G := G.new w.heap.size (fun _ => False) f) (h := fun i => if i = f then O.smap [] else h i) (i := f) (l := []) (if_pos rfl)
  simpa [Gh.new] using this

theorem str_eta (s : ByteArray) : (⟨⟨s.data.toList⟩⟩ : ByteArray) = s := rfl

theorem s_mget {t k e : TypeId} {ok : Bool} {z : Value} {yx yi : Operand} {x i : X} (hx : cvX yx = some x) (hy : cvX yi = some i) (ht : P.underlying t = some (.map k e)) (hks : P.underlying k = some .string) (hz : zero1? P e = some z)
    (hk : opE P ev hpR f dr gd g (.mget ok (zeroE z) x i) K) : Sound P ⟨dst, .lookup t yx yi ok, ty, pos, after, gu⟩ ev hpR f gd g K := by
  simp only [opE] at hk
  obtain ⟨o1, d1, hk1, h1⟩ := evG_spec hk
  obtain ⟨o2, d2, hk2, h2⟩ := evG_spec hk1
  split at hk2
  case h_2 => exact hk2.elim
  rename_i m s
  split at hk2
  case h_2 => exact hk2.elim
  rename_i l hl
  have hz' : (∀ w, (zeroValue e).run P w = .ok z w) ∧ okZ z = true := by
    simp only [zero1?, Option.bind_eq_some_iff] at hz
    obtain ⟨z', ⟨inf, hi, hv⟩, hz⟩ := hz
    split at hz
    · cases hz
      exact ⟨fun w => by simp [zeroValue, run_typeInfo _ hi, Result.andThen, hv], by assumption⟩
    · cases hz
  have run : ∀ {w : World} {G : Gh} {h : Hp} {r : Act}, Inv w G h → h m = .smap l → r.eval yx = .map (some (G.blk m)) → r.eval yi = .string s →
      (mlook l s.data.toList = none ∧ (Instr.lookup t (r.eval yx) (r.eval yi) ok).run P w = .ok (if ok then .tuple #[z, .bool false] else z) w) ∨
      ∃ v v0, mlook l s.data.toList = some v0 ∧ RvE w G.pub v v0 ∧ (Instr.lookup t (r.eval yx) (r.eval yi) ok).run P w = .ok (if ok then .tuple #[v, .bool true] else v) w := by
    intro w G h r hi hm e1 e2
    obtain ⟨_, es, ck, hc, hs, hr⟩ := hi.smap m l hm
    rw [e1, e2]
    rcases find_list (k := s.data.toList) es.toList l 0 (by simpa using hs) (fun j e p a b => hr j e p (by simpa using a) b) with ⟨q1, q2, _⟩ | ⟨j, e', v0, q1, q2, q3, q4, _⟩
    · refine .inl ⟨q2, ?_⟩
      have hf := MapKept.run_findKey (P := P) (w := w) hks q1
      have hck := MapKept.run_checkKey (P := P) (w := w) (k := .string s) hks trivial es.isEmpty 9999
      simp [Instr.lookup, run_underlying ht, MapKept.run_getObj_map hc, hck, hf, hz'.1, Result.andThen]
    · refine .inr ⟨e'.val, v0, q4, (hr j e' _ (by simpa using q2) q3).2, ?_⟩
      have hf := MapKept.run_findKey (P := P) (w := w) hks q1
      have hck := MapKept.run_checkKey (P := P) (w := w) (k := .string s) hks trivial es.isEmpty 9999
      simp [Instr.lookup, run_underlying ht, MapKept.run_getObj_map hc, hck, hf, Result.andThen]
  split at hk2
  · rename_i v0 hv0
    refine Sound.pure (tc := [m]) hk2 fun ⟨p1, p2⟩ hg w G h r hi ht hr => ?_
    obtain ⟨e1, _⟩ := rv_mp (h1 (fun d' e => hr yx x d' hx e) hg p1)
    obtain ⟨e2, _⟩ := rv_v (h2 (fun d' e => hr yi i d' hy e) hg p2)
    rcases run hi (by rw [ht m (by simp), hl]) e1 e2 with ⟨q, _⟩ | ⟨v, v1, q1, q2, q3⟩
    · rw [hv0] at q; cases q
    · rw [hv0] at q1; cases q1
      refine ⟨_, exec_v (w' := w) q3, ?_⟩
      cases ok with
      | false => exact .e q2
      | true =>
        refine .tup rfl fun j c d hc hd => ?_
        match j with
        | 0 => simp at hc hd; subst hc; subst hd; exact .e q2
        | 1 => simp at hc hd; subst hc; subst hd; exact rv_mkbool _
        | j + 2 => simp at hc
  · rename_i hv0
    refine Sound.pure (tc := [m]) hk2 fun ⟨p1, p2⟩ hg w G h r hi ht hr => ?_
    obtain ⟨e1, _⟩ := rv_mp (h1 (fun d' e => hr yx x d' hx e) hg p1)
    obtain ⟨e2, _⟩ := rv_v (h2 (fun d' e => hr yi i d' hy e) hg p2)
    rcases run hi (by rw [ht m (by simp), hl]) e1 e2 with ⟨_, q3⟩ | ⟨v, v1, q1, _⟩
    · have q2 : RvE w G.pub z (zeroE z) := (zeroE_rel hz'.2).1
      refine ⟨_, exec_v (w' := w) q3, ?_⟩
      cases ok with
      | false => exact .e q2
      | true =>
        refine .tup rfl fun j c d hc hd => ?_
        match j with
        | 0 => simp at hc hd; subst hc; subst hd; exact .e q2
        | 1 => simp at hc hd; subst hc; subst hd; exact rv_mkbool _
        | j + 2 => simp at hc
    · rw [hv0] at q1; cases q1

theorem s_mput {t k e : TypeId} {ym yk yx : Operand} {m y x : X} (hm : cvX ym = some m) (hy : cvX yk = some y) (hx : cvX yx = some x) (ht : P.underlying t = some (.map k e)) (hks : P.underlying k = some .string)
    (hk : opE P ev hpR f dr gd g (.mput m y x) K) : Sound P ⟨dst, .mapUpdate t ym yk yx, ty, pos, after, gu⟩ ev hpR f gd g K := by
  simp only [opE] at hk
  obtain ⟨hgd, hk⟩ := hk
  obtain ⟨o1, d1, hk1, h1⟩ := evG_spec hk
  obtain ⟨o2, d2, hk2, h2⟩ := evG_spec hk1
  obtain ⟨o3, d3, hk3, h3⟩ := evG_spec hk2
  split at hk3
  case h_2 => exact hk3.elim
  rename_i i s v hv
  split at hk3
  case h_2 => exact hk3.elim
  rename_i l hl
  refine ⟨_, _, hk3, fun hg => (by rw [hgd] at hg; cases hg), by simp, fun ⟨p1, p2, p3⟩ hg => ?_⟩
  intro w G h r K Q hi htc _ hr hK
  have hb : h i = .smap l := by rw [htc i (by simp), hl]
  obtain ⟨e1, _⟩ := rv_mp (h1 (fun d' e => hr ym m d' hm e) hg p1)
  obtain ⟨e2, _⟩ := rv_v (h2 (fun d' e => hr yk y d' hy e) hg p2)
  have e3 := toE_rel hv (h3 (fun d' e => hr yx x d' hx e) hg p3)
  rw [happ_wr] at hK
  obtain ⟨_, es, ck, hc, hs, hrr⟩ := hi.smap i l hb
  have hck := MapKept.run_checkKey (P := P) (w := w) (k := .string s) hks trivial false 9999
  rcases find_list (k := s.data.toList) es.toList l 0 (by simpa using hs) (fun j e p a b => hrr j e p (by simpa using a) b) with ⟨q1, _, q3⟩ | ⟨j, e', v0, q1, q2, q3, _, q5⟩
  · have hf := MapKept.run_findKey (P := P) (w := w) hks q1
    obtain ⟨i1, x1⟩ := map_write (ck := ck + 1) (es := es.push { key := .string s, val := r.eval yx, born := ck }) hi hb (l' := mset l s.data.toList v) (by rw [q3]; simp [hs]) (fun j e p a b => by
      rw [q3] at b
      by_cases hj : j < l.length
      · rw [List.getElem?_append_left hj] at b
        rw [Array.getElem?_push_lt (by omega)] at a
        exact hrr j e p (by rw [← a, Array.getElem?_eq_getElem]) b
      · rw [List.getElem?_append_right (by omega)] at b
        have hjl : j - l.length = 0 := by have := (List.getElem?_eq_some_iff.1 b).1; simpa using this
        have hj2 : j = es.size := by omega
        subst hj2
        rw [hjl] at b
        simp at a b
        subst a; subst b
        exact ⟨rfl, e3⟩)
    have hrun : (execOp r.eval ⟨dst, .mapUpdate t ym yk yx, ty, pos, after, gu⟩).run P w = .ok .skip { w with heap := w.heap.setIfInBounds (G.blk i) (.map (es.push { key := .string s, val := r.eval yx, born := ck }) (ck + 1)) } := by
      simp [execOp, Instr.mapUpdate, run_underlying ht, e1, e2, MapKept.run_getObj_map hc, hck, hf, Result.andThen, MapKept.run_setObj_map _ hc]
    unfold Oper.wp
    rw [hrun]
    exact hK undef _ G (fun d' e' => by cases e') i1 x1
  · have hf := MapKept.run_findKey (P := P) (w := w) hks q1
    have hej : es[j]? = some e' := by simpa using q2
    have hkey : e'.key = .string s := (hrr j e' _ hej q3).1
    obtain ⟨i1, x1⟩ := map_write (ck := ck) (es := es.modify j fun e => { e with key := .string s, val := r.eval yx }) hi hb (l' := mset l s.data.toList v) (by rw [q5]; simp [hs]) (fun j' e p a b => by
      rw [q5] at b
      rw [Array.getElem?_modify] at a
      by_cases hj : j = j'
      · subst hj
        rw [if_pos rfl, hej] at a
        rw [List.getElem?_set_self (by rw [← hs]; exact (Array.getElem?_eq_some_iff.1 hej).1)] at b
        simp at a b
        subst a; subst b
        exact ⟨rfl, e3⟩
      · rw [if_neg hj] at a
        rw [List.getElem?_set_ne hj] at b
        exact hrr j' e p a b)
    have hsame : Instr.sameBits 10000 (.string s) (.string s) = true := (MapKept.bytes_beq _ _).2 rfl
    have hrun : (execOp r.eval ⟨dst, .mapUpdate t ym yk yx, ty, pos, after, gu⟩).run P w = .ok .skip { w with heap := w.heap.setIfInBounds (G.blk i) (.map (es.modify j fun e => { e with key := .string s, val := r.eval yx }) ck) } := by
      simp [execOp, Instr.mapUpdate, run_underlying ht, e1, e2, MapKept.run_getObj_map hc, hck, hf, Result.andThen, Instr.keyThatStays, hej, hkey, hsame, MapKept.run_setObj_map _ hc]
    unfold Oper.wp
    rw [hrun]
    exact hK undef _ G (fun d' e' => by cases e') i1 x1

theorem get_prep {x : Option I} (h : opE P ev hpR f dr gd g (x.getD .bad) K) : ∃ i, x = some i ∧ opE P ev hpR f dr gd g i K := by
  cases x with
  | none => simp [opE] at h
  | some i => exact ⟨i, rfl, h⟩

theorem zeros_spec {t : TypeId} {z : List Value} (h : zeros? P t = some z) : zerosOf P t = some z ∧ z.all okZ = true := by
  simp only [zeros?, Option.bind_eq_some_iff] at h
  obtain ⟨z', h1, h2⟩ := h
  split at h2
  · cases h2; exact ⟨h1, by assumption⟩
  · cases h2

set_option maxHeartbeats 1000000 in
theorem op_sound {o : Oper} (hf : dr = false → ∃ w G h a, Rel ev w G h a) (h : opE P ev hpR f dr gd g (prepI P o.op) K) : Sound P o ev hpR f gd g K := by
  obtain ⟨dst, op, ty, pos, after, gu⟩ := o
  obtain ⟨i, hi, h⟩ := get_prep h
  simp only at hi
  cases op
  case move x =>
    simp only [prepO, Option.map_eq_some_iff] at hi
    obtain ⟨x, hx, rfl⟩ := hi
    exact s_mov hx (.inl rfl) h
  case assign x =>
    simp only [prepO, Option.map_eq_some_iff] at hi
    obtain ⟨x, hx, rfl⟩ := hi
    exact s_mov hx (.inr rfl) h
  case pick a b c =>
    simp only [prepO, Option.bind_eq_some_iff, Option.map_eq_some_iff] at hi
    obtain ⟨_, h1, _, h2, _, h3, rfl⟩ := hi
    exact s_pick h1 h2 h3 h
  case alloc t =>
    simp only [prepO, Option.map_eq_some_iff] at hi
    obtain ⟨z, hz, rfl⟩ := hi
    obtain ⟨h1, h2⟩ := zeros_spec hz
    exact s_alloc h1 h2 h
  case box t x =>
    simp only [prepO, Option.map_eq_some_iff] at hi
    obtain ⟨x, hx, rfl⟩ := hi
    exact s_box hx h
  case build t ps =>
    simp only [prepO, Option.bind_eq_some_iff] at hi
    obtain ⟨z, hz, xs, hps, hi⟩ := hi
    obtain ⟨h1, h2⟩ := zeros_spec hz
    split at hi
    · rename_i fs hu
      split at hi
      · rename_i hfs
        simp only [Option.map_eq_some_iff] at hi
        obtain ⟨pl, hpl, rfl⟩ := hi
        exact s_build h1 h2 hps (.inl ⟨fs, hu, hpl, fun fd hfd => Option.isSome_iff_exists.1 (List.all_eq_true.1 hfs fd hfd)⟩) h
      · cases hi
    · rename_i n e hu
      split at hi
      · rename_i he
        cases hi
        exact s_build h1 h2 hps (.inr ⟨n, e, hu, rfl, Option.isSome_iff_exists.1 he⟩) h
      · cases hi
    · cases hi
  case buildSlice t n ps =>
    simp only [prepO, Option.bind_eq_some_iff] at hi
    obtain ⟨xs, hps, hi⟩ := hi
    split at hi
    · rename_i e hu
      simp only [Option.bind_eq_some_iff] at hi
      obtain ⟨z, hz, hi⟩ := hi
      obtain ⟨h1, h2⟩ := zeros_spec hz
      split at hi
      · rename_i hc
        cases hi
        exact s_lit hu h1 h2 hps rfl hc.1 hc.2.1 hc.2.2 h
      · cases hi
    · cases hi
  case load t x =>
    simp only [prepO, Option.bind_eq_some_iff, Option.map_eq_some_iff] at hi
    obtain ⟨x, hx, d, hd, rfl⟩ := hi
    split at h
    · rename_i ha; exact s_load hx ⟨d, hd⟩ ha (fun _ => rfl) h
    · rename_i ha; exact s_load hx ⟨d, hd⟩ (by simpa using ha) (fun e => by cases e) h
  case store t a x =>
    simp only [prepO, Option.bind_eq_some_iff, Option.map_eq_some_iff] at hi
    obtain ⟨_, h1, _, h2, i, h3, rfl⟩ := hi
    exact s_store h1 h2 ⟨i, h3⟩ rfl h
  case nilCheck x =>
    simp only [prepO, Option.map_eq_some_iff] at hi
    obtain ⟨x, hx, rfl⟩ := hi
    exact s_nilc hx h
  case binOp op t x y t' =>
    simp only [prepO, Option.bind_eq_some_iff] at hi
    obtain ⟨_, h1, _, h2, hi⟩ := hi
    split at hi
    · cases hi; exact s_binb h1 h2 (by assumption) h
    · split at hi
      · cases hi; exact s_isnil h1 h2 (by assumption) (.inl ⟨rfl, rfl⟩) h
      · cases hi; exact s_isnil h1 h2 (by assumption) (.inr ⟨rfl, rfl⟩) h
      · cases hi
    · cases hi; exact s_bin h1 h2 h
    · cases hi; exact s_bin h1 h2 h
    · cases hi
  case unOp op t x =>
    simp only [prepO, Option.map_eq_some_iff] at hi
    obtain ⟨x, hx, rfl⟩ := hi
    exact s_un hx h
  case convert s d x =>
    simp only [prepO, Option.bind_eq_some_iff] at hi
    obtain ⟨x, hx, hi⟩ := hi
    split at hi
    · cases hi; exact s_convi hx (by assumption) (by assumption) h
    · cases hi; exact s_convss hx (by assumption) (by assumption) h
    · split at hi
      · cases hi; exact s_convsb hx (by assumption) (by assumption) (by assumption) h
      · cases hi
    · split at hi
      · cases hi; exact s_convbs hx (by assumption) (by assumption) (by assumption) h
      · cases hi
    · cases hi
  case makeInterface t x =>
    simp only [prepO, Option.bind_eq_some_iff] at hi
    obtain ⟨x, hx, hi⟩ := hi
    split at hi
    · cases hi
    · cases hi
    · rename_i d hne hd
      cases hi
      exact s_mki hx ⟨d, hd, fun ms e => hne ms e⟩ h
  case makeFunc fn a c =>
    simp only [prepO, Option.bind_eq_some_iff, Option.map_eq_some_iff] at hi
    obtain ⟨_, h1, _, h2, rfl⟩ := hi
    exact s_mkf h1 h2 h
  case makeSlice t l c =>
    simp only [prepO, Option.bind_eq_some_iff] at hi
    obtain ⟨l', hl, hi⟩ := hi
    split at hi
    · rename_i e hu
      simp only [Option.bind_eq_some_iff] at hi
      obtain ⟨inf, hinf, z, hz, hi⟩ := hi
      obtain ⟨h1, h2⟩ := zeros_spec hz
      split at hi
      · rename_i hc
        cases hi
        exact s_mks hu hinf hc.2.2.1 h1 h2 hc.1 hc.2.1 hl hc.2.2.2 h
      · cases hi
    · cases hi
  case slice t x lo hi' mx =>
    simp only [prepO, Option.bind_eq_some_iff] at hi
    obtain ⟨_, h1, _, h2, _, h3, hi⟩ := hi
    split at hi
    · cases hi; exact s_slstr h1 h2 h3 (by assumption) h
    · split at hi
      · cases hi; exact s_slice h1 h2 h3 (by assumption) rfl (by assumption) h
      · cases hi
    · cases hi
  case fieldAddr t x fi =>
    simp only [prepO, Option.bind_eq_some_iff] at hi
    obtain ⟨x, hx, hi⟩ := hi
    split at hi
    · simp only [Option.bind_eq_some_iff] at hi
      obtain ⟨fd, hfd, hi⟩ := hi
      split at hi
      · cases hi; exact s_fadr hx (by assumption) hfd (by assumption) h
      · cases hi
    · cases hi
  case indexAddr t x i =>
    simp only [prepO, Option.bind_eq_some_iff] at hi
    obtain ⟨_, h1, _, h2, hi⟩ := hi
    split at hi
    · split at hi
      · cases hi; exact s_iadr_sl h1 h2 (by assumption) rfl (by assumption) h
      · cases hi
    · split at hi
      · cases hi; exact s_iadr_arr h1 h2 (by assumption) rfl (by assumption) h
      · cases hi
    · cases hi
  case field t x fi =>
    simp only [prepO, Option.bind_eq_some_iff] at hi
    obtain ⟨x, hx, hi⟩ := hi
    split at hi
    · simp only [Option.bind_eq_some_iff, Option.map_eq_some_iff] at hi
      obtain ⟨fd, hfd, d, hd, rfl⟩ := hi
      split at h
      · rename_i ha; exact s_fld hx (by assumption) hfd ⟨d, hd⟩ ha (fun _ => rfl) h
      · rename_i ha; exact s_fld hx (by assumption) hfd ⟨d, hd⟩ (by simpa using ha) (fun e => by cases e) h
    · cases hi
  case index t x i =>
    simp only [prepO, Option.bind_eq_some_iff] at hi
    obtain ⟨_, h1, _, h2, hi⟩ := hi
    split at hi
    · cases hi; exact s_ixs h1 h2 (by assumption) h
    · simp only [Option.bind_eq_some_iff] at hi
      obtain ⟨d, hd, hi⟩ := hi
      split at hi
      · rename_i ha; cases hi; exact s_ixa h1 h2 (by assumption) ⟨d, hd⟩ ha rfl (fun e => by cases e) h
      · split at hi
        · rename_i ha hk1; cases hi; exact s_ixa h1 h2 (by assumption) ⟨d, hd⟩ (by simpa using ha) hk1 (fun _ => rfl) h
        · cases hi
    · cases hi
  case makeMap t y =>
    cases y with
    | none => simp only [prepO, Option.some.injEq] at hi; subst hi; exact s_mkm h
    | some y => simp only [prepO] at hi; cases hi
  case lookup t yx yi ok =>
    simp only [prepO, Option.bind_eq_some_iff] at hi
    obtain ⟨x, hx, i, hy, hi⟩ := hi
    split at hi
    · split at hi
      · simp only [Option.map_eq_some_iff] at hi
        obtain ⟨z, hz, rfl⟩ := hi
        exact s_mget hx hy (by assumption) (by assumption) hz h
      · cases hi
    · cases hi
  case mapUpdate t ym yk yx =>
    simp only [prepO, Option.bind_eq_some_iff] at hi
    obtain ⟨m, hm, y, hy, x, hx, hi⟩ := hi
    split at hi
    · split at hi
      · cases hi
        exact s_mput hm hy hx (by assumption) (by assumption) h
      · cases hi
    · cases hi
  case extract x i =>
    simp only [prepO, Option.map_eq_some_iff] at hi
    obtain ⟨x, hx, rfl⟩ := hi
    exact s_ext (t := 0) hx h
  case call c =>
    simp only [prepO] at hi
    split at hi
    · simp only [Option.bind_eq_some_iff] at hi
      obtain ⟨fn, hfn, hi⟩ := hi
      split at hi
      · rename_i hc
        simp only [Option.map_eq_some_iff] at hi
        obtain ⟨xs, hxs, rfl⟩ := hi
        exact s_call hfn hc.1 hc.2 hxs h
      · cases hi
    · simp only [Option.map_eq_some_iff] at hi
      obtain ⟨xs, hxs, rfl⟩ := hi
      exact s_callv rfl hxs h
    · simp only [Option.bind_eq_some_iff] at hi
      obtain ⟨x, hx, hi⟩ := hi
      split at hi
      · cases hi; exact s_lens hx (by assumption) hf h
      · cases hi; exact s_lenl hx (by assumption) hf h
      · cases hi
    · simp only [Option.bind_eq_some_iff, Option.map_eq_some_iff] at hi
      obtain ⟨_, h1, _, h2, rfl⟩ := hi
      exact s_mn h1 h2 h
    · simp only [Option.bind_eq_some_iff, Option.map_eq_some_iff] at hi
      obtain ⟨_, h1, _, h2, rfl⟩ := hi
      exact s_mx h1 h2 h
    · simp only [Option.bind_eq_some_iff] at hi
      obtain ⟨_, h1, _, h2, hi⟩ := hi
      split at hi
      · simp only [Option.bind_eq_some_iff] at hi
        obtain ⟨inf, hinf, z, hz, hi⟩ := hi
        split at hi
        · rename_i hc; cases hi; exact s_app h1 h2 (by assumption) (by assumption) hinf rfl hz hc.1 hc.2 h
        · cases hi
      · simp only [Option.bind_eq_some_iff] at hi
        obtain ⟨inf, hinf, z, hz, hi⟩ := hi
        split at hi
        · rename_i hc; cases hi; exact s_apps h1 h2 (by assumption) (by assumption) hinf hc.1 hz hc.2.1 hc.2.2 h
        · cases hi
      · cases hi
    · cases hi
  all_goals (simp only [prepO] at hi; cases hi)
end
end Go.Proofs.Ytmnhoglkahmlaaa.Ab
