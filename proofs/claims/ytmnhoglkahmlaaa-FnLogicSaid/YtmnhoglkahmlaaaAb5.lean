/- Each step of the small language is what the machine does: composite values, and steps that make or write memory. -/
import Derived.Test.YtmnhoglkahmlaaaAb4
set_option linter.unusedSimpArgs false
set_option linter.unusedVariables false
set_option linter.unnecessarySimpa false
set_option linter.constructorNameAsVariable false
namespace Go.Proofs.Ytmnhoglkahmlaaa.Ab
open Go
set_option linter.unusedVariables false
section
variable {P : Program} {o : Oper} {ev : X → Option D} {hpR : Hp} {f : Nat} {dr gd g : Bool} {K : Prop → Eff → Prop}
variable {dst : Option Nat} {ty : TypeId} {pos : String} {after : Array Edge} {gu : Option (Nat × Bool)}

/-- A row of cells reads as a list. -/
structure RvA (w : World) (G : Gh) (h : Hp) (cs : Array Value) (ds : List D) : Prop where
  size : cs.size = ds.length
  one : ∀ (j : Nat) c, cs[j]? = some c → c.oneCell' = true
  rel : ∀ (j : Nat) c d, cs[j]? = some c → ds[j]? = some d → Rv w G h c d

theorem Rv.leaf_cell {w G h} {v : Value} {d : D} (r : Rv w G h v d) (hl : d.leaf = true) : v.oneCell' = true := by
  cases r with
  | e h => exact h.cell
  | own hx _ _ => exact hx.cell
  | agg => cases hl
  | tup => cases hl
  | when => cases hl
  | any => cases hl
  | _ => rfl

theorem Rv.cells {w G h} {v : Value} {d : D} (r : Rv w G h v d) (hl : d.stor = true) : RvA w G h v.cells d.cells := by
  have key : ∀ {v d}, Rv w G h v d → v.oneCell' = true → d.cells = [d] → RvA w G h v.cells d.cells := fun {v d} r h1 h2 => by
    have : v.cells = #[v] := by cases v <;> first | rfl | cases h1
    rw [this, h2]
    refine ⟨rfl, fun j c hc => ?_, fun j c d' hc hd => ?_⟩
    · cases j with
      | zero => simp at hc; subst hc; exact h1
      | succ j => simp at hc
    · cases j with
      | zero => simp at hc hd; subst hc; subst hd; exact r
      | succ j => simp at hc
  cases d with
  | agg ds =>
    obtain ⟨cs, rfl, hl, h1, h2⟩ := rv_agg r
    exact ⟨hl, h1, h2⟩
  | tup ds => cases hl
  | when g d => cases hl
  | any => cases hl
  | _ => exact key r (r.leaf_cell rfl) rfl

theorem fold_set {n : Nat} (vs : Array Value) (off : Nat) : ∀ (l : List (Value × Nat)) (cells : Array Value), (∀ x ∈ l, vs[x.2]? = some x.1) → ∀ m,
    (l.foldl (fun cs (x : Value × Nat) => cs.setIfInBounds (off + x.2) x.1) cells)[m]? = if (∃ x ∈ l, off + x.2 = m) ∧ m < cells.size then vs[m - off]? else cells[m]? := by
  intro l
  induction l with
  | nil => intro cells _ m; simp
  | cons x l ih =>
    intro cells hx m
    rw [List.foldl_cons, ih _ (fun y hy => hx y (by simp [hy])) m]
    have h0 := hx x (by simp)
    by_cases h1 : ∃ y ∈ l, off + y.2 = m
    · obtain ⟨y, hy, e⟩ := h1
      by_cases hm : m < cells.size
      · rw [if_pos ⟨⟨y, hy, e⟩, by simpa using hm⟩, if_pos ⟨⟨y, by simp [hy], e⟩, hm⟩]
      · rw [if_neg (fun h => hm (by simpa using h.2)), if_neg (fun h => hm h.2)]
        simp [Array.getElem?_eq_none (Nat.le_of_not_lt hm)]; omega
    · rw [if_neg (fun h => h1 h.1)]
      by_cases h2 : off + x.2 = m
      · by_cases hm : m < cells.size
        · rw [if_pos ⟨⟨x, by simp, h2⟩, hm⟩]
          subst h2
          simp [hm, h0]
        · rw [if_neg (fun h => hm h.2)]
          simp [Array.getElem?_eq_none (Nat.le_of_not_lt hm)]; omega
      · rw [if_neg (fun h => by
          obtain ⟨⟨y, hy, e⟩, _⟩ := h
          rcases List.mem_cons.1 hy with rfl | hy
          · exact h2 e
          · exact h1 ⟨y, hy, e⟩)]
        rw [Array.getElem?_setIfInBounds_ne h2]

theorem fold_zip (vs cells : Array Value) (off : Nat) (hb : off + vs.size ≤ cells.size) (m : Nat) :
    (vs.zipIdx.foldl (fun cs (x : Value × Nat) => cs.setIfInBounds (off + x.2) x.1) cells)[m]? = if off ≤ m ∧ m < off + vs.size then vs[m - off]? else cells[m]? := by
  rw [← Array.foldl_toList, fold_set (n := 0) vs off]
  · by_cases h : off ≤ m ∧ m < off + vs.size
    · rw [if_pos h, if_pos ⟨⟨(vs[m - off]'(by omega), m - off), by simp [List.mem_zipIdx_iff_getElem?, show m - off < vs.size by omega], by simp; omega⟩, by omega⟩]
    · rw [if_neg h, if_neg]
      rintro ⟨⟨x, hx, e⟩, _⟩
      simp [List.mem_zipIdx_iff_getElem?] at hx
      have := (Array.getElem?_eq_some_iff.1 hx).1
      omega
  · intro x hx
    simpa [List.mem_zipIdx_iff_getElem?] using hx

theorem fold_zip_size (vs cells : Array Value) (off : Nat) : (vs.zipIdx.foldl (fun cs (x : Value × Nat) => cs.setIfInBounds (off + x.2) x.1) cells).size = cells.size := by
  rw [← Array.foldl_toList]
  generalize vs.zipIdx.toList = l
  induction l generalizing cells with
  | nil => rfl
  | cons x l ih => rw [List.foldl_cons, ih]; simp

theorem splice_get' {α : Type} (l r : List α) (off m : Nat) (hb : off ≤ l.length) : (l.take off ++ r ++ l.drop (off + r.length))[m]? = if off ≤ m ∧ m < off + r.length then r[m - off]? else l[m]? := by
  have h1 : (l.take off).length = off := by simp; omega
  by_cases a : m < off
  · rw [if_neg (by omega), List.append_assoc, List.getElem?_append_left (by omega), List.getElem?_take, if_pos a]
  · by_cases b : m < off + r.length
    · rw [if_pos ⟨by omega, b⟩, List.append_assoc, List.getElem?_append_right (by omega), h1, List.getElem?_append_left (by omega)]
    · rw [if_neg (by omega), List.append_assoc, List.getElem?_append_right (by omega), h1, List.getElem?_append_right (by omega), List.getElem?_drop]
      congr 1
      omega

theorem splice_get {α : Type} (l r : List α) (off m : Nat) (hb : off + r.length ≤ l.length) : (l.take off ++ r ++ l.drop (off + r.length))[m]? = if off ≤ m ∧ m < off + r.length then r[m - off]? else l[m]? := by
  have h1 : (l.take off).length = off := by simp; omega
  by_cases a : m < off
  · rw [if_neg (by omega), List.append_assoc, List.getElem?_append_left (by omega), List.getElem?_take, if_pos a]
  · by_cases b : m < off + r.length
    · rw [if_pos ⟨by omega, b⟩, List.append_assoc, List.getElem?_append_right (by omega), h1, List.getElem?_append_left (by omega)]
    · rw [if_neg (by omega), List.append_assoc, List.getElem?_append_right (by omega), h1, List.getElem?_append_right (by omega), List.getElem?_drop]
      congr 1
      omega

/-- One part put into a row. -/
theorem RvA.put {w G h} {cs vs : Array Value} {ds es : List D} (hc : RvA w G h cs ds) (hv : RvA w G h vs es) {off : Nat} (hb : off + vs.size ≤ cs.size) :
    RvA w G h (vs.zipIdx.foldl (fun cs (x : Value × Nat) => cs.setIfInBounds (off + x.2) x.1) cs) (ds.take off ++ es ++ ds.drop (off + es.length)) := by
  have e1 := hv.size
  have e2 := hc.size
  refine ⟨by rw [fold_zip_size]; simp; omega, fun j c hj => ?_, fun j c d hj hd => ?_⟩
  · rw [fold_zip _ _ _ hb] at hj
    split at hj
    · exact hv.one _ _ hj
    · exact hc.one _ _ hj
  · rw [fold_zip _ _ _ hb] at hj
    rw [splice_get _ _ _ _ (by omega)] at hd
    rw [e1] at hj
    split at hj
    · rw [if_pos (by assumption)] at hd; exact hv.rel _ _ _ hj hd
    · rw [if_neg (by assumption)] at hd; exact hc.rel _ _ _ hj hd

/-- The parts of a composite value, one after the other. -/
theorem fill_rel {w G h} (place : Nat → Option (Nat × Nat)) : ∀ (ps : List (Nat × Value)) (qs : List (Nat × Nat × List D)) (cs : Array Value) (ds : List D),
    RvA w G h cs ds → ps.length = qs.length → (∀ (j : Nat) p q, ps[j]? = some p → qs[j]? = some q → place p.1 = some (q.1, q.2.1) ∧ RvA w G h p.2.cells q.2.2 ∧ q.2.2.length = q.2.1 ∧ q.1 + q.2.1 ≤ ds.length) →
    ∃ cs', Instr.fill place cs ps = some cs' ∧ RvA w G h cs' (fillD ds qs) := by
  intro ps
  induction ps with
  | nil => intro qs cs ds hc hl _; cases qs with | nil => exact ⟨cs, rfl, hc⟩ | cons q qs => cases hl
  | cons p ps ih =>
    intro qs cs ds hc hl hp
    cases qs with
    | nil => cases hl
    | cons q qs =>
      obtain ⟨i, v⟩ := p
      obtain ⟨off, n, es⟩ := q
      obtain ⟨h1, h2, h3, h4⟩ := hp 0 (i, v) (off, n, es) rfl rfl
      have h1 : place i = some (off, n) := h1
      have h2 : RvA w G h v.cells es := h2
      have h3 : es.length = n := h3
      have h4 : off + n ≤ ds.length := h4
      have e1 := h2.size
      have e2 := hc.size
      have hput := hc.put h2 (off := off) (by omega)
      obtain ⟨cs', e, r⟩ := ih qs _ _ hput (by simpa using hl) (fun j p q a b => by
        obtain ⟨x1, x2, x3, x4⟩ := hp (j + 1) p q (by simpa using a) (by simpa using b)
        exact ⟨x1, x2, x3, by
          have x5 : q.1 + q.2.1 ≤ ds.length := x4
          show q.1 + q.2.1 ≤ (ds.take off ++ es ++ ds.drop (off + es.length)).length
          simp only [List.length_append, List.length_take, List.length_drop]
          omega⟩)
      refine ⟨cs', ?_, r⟩
      simp only [Instr.fill, h1]
      have e3 : v.cells.size = n := by rw [h2.size, h3]
      rw [if_neg (by simp; omega)]
      exact e

/-! ### New memory -/
theorem RvA.ext {w G h w' G' h'} (x : Ext w G h w' G' h') {cs : Array Value} {ds : List D} (r : RvA w G h cs ds) : RvA w' G' h' cs ds :=
  ⟨r.size, r.one, fun j c d a b => (r.rel j c d a b).ext x⟩

/-- The first cells of a row read as a list. -/
structure RvP (w : World) (G : Gh) (h : Hp) (cs : Array Value) (ds : List D) : Prop where
  size : ds.length ≤ cs.size
  rel : ∀ (j : Nat) c d, cs[j]? = some c → ds[j]? = some d → Rv w G h c d ∧ c.oneCell' = true

theorem RvP.ext {w G h w' G' h'} (x : Ext w G h w' G' h') {cs : Array Value} {ds : List D} (r : RvP w G h cs ds) : RvP w' G' h' cs ds :=
  ⟨r.size, fun j c d a b => ⟨(r.rel j c d a b).1.ext x, (r.rel j c d a b).2⟩⟩

def Gh.new (G : Gh) (b : Nat) (pn : Nat → Prop) (f : Nat) : Gh := ⟨fun x o => G.pub x o ∨ (x = b ∧ pn o), fun i => if i = f then b else G.blk i⟩

/-- A new block of cells: some of it published at once, and maybe a thing that is still written. -/
theorem alloc_step {w : World} {G : Gh} {h h' : Hp} {f : Nat} {cs : Array Value} {T : TypeId} {pn : Nat → Prop} (hi : Inv w G h) (hd : h f = .dead ∨ ∃ n k n', h f = .front n k ∧ h' f = .front n' k ∧ n ≤ n' ∧ (n' = n → n = 0)) (hh : ∀ i, i ≠ f → h' i = h i)
    (hbox : ∀ ds, h' f = .box ds → (∀ o, ¬ pn o) ∧ RvA w G h cs ds) (hfr : ∀ n k, h' f = .front n k → 0 < n → ∀ o, n * k ≤ o → ¬ pn o)
    (hvec : ∀ b k ds, h' f = .vec b k ds → b = true ∧ (∀ o, ¬ pn o) ∧ RvP w G h cs ds := by intro b k ds e; simp at e) (hsm : ∀ l, h' f ≠ .smap l := by intro l e; simp at e) :
    Inv (w.alloc (.cells cs T)) (G.new w.heap.size pn f) h' ∧ Ext w G h (w.alloc (.cells cs T)) (G.new w.heap.size pn f) h' := by
  have hb : ∀ i, i ≠ f → (G.new w.heap.size pn f).blk i = G.blk i := fun i e => by simp [Gh.new, e]
  have hbf : (G.new w.heap.size pn f).blk f = w.heap.size := by simp [Gh.new]
  have hnb : ∀ ds, h f ≠ .box ds := fun ds e => by
    rcases hd with hd | ⟨n, k, n', hd, _⟩
    · rw [hd] at e; cases e
    · rw [hd] at e; cases e
  have hnv : ∀ b k ds, h f ≠ .vec b k ds := fun b k ds e => by
    rcases hd with hd | ⟨n, k, n', hd, _⟩
    · rw [hd] at e; cases e
    · rw [hd] at e; cases e
  have hns : ∀ l, h f ≠ .smap l := fun l e => by
    rcases hd with hd | ⟨n, k, n', hd, _⟩
    · rw [hd] at e; cases e
    · rw [hd] at e; cases e
  have hng : h f ≠ .gone := fun e => by
    rcases hd with hd | ⟨n, k, n', hd, _⟩
    · rw [hd] at e; cases e
    · rw [hd] at e; cases e
  have hold : ∀ b, b < w.heap.size → (w.alloc (.cells cs T)).heap[b]? = w.heap[b]? := fun b e => RowKit.Below.heap_alloc _ _ _ e
  have ext : Ext w G h (w.alloc (.cells cs T)) (G.new w.heap.size pn f) h' := {
    os := rfl
    tape := rfl
    output := rfl
    size := by simp
    pub := fun b o p => ⟨.inl p, World.cell?_alloc_lt _ _ _ (hi.publt b o p)⟩
    box := fun i ds e => by
      have : i ≠ f := fun e' => hnb ds (e' ▸ e)
      exact ⟨⟨ds, by rw [hh i this, e], rfl⟩, hb i this⟩
    tok := fun i n k e => by
      by_cases this : i = f
      · subst this
        rcases hd with hd | ⟨n1, k1, n', hd, hd', hle, hne⟩
        · rw [hd] at e; cases e
        · rw [hd] at e; cases e
          exact ⟨n', hd', hle, fun q q0 => by have := hne q; omega⟩
      refine ⟨n, by rw [hh i this, e], Nat.le_refl _, fun _ hn => ⟨hb i this, ?_⟩⟩
      simp only [World.shape?]
      rw [hold _ (hi.lt i (by rw [e]; simp [O.has, hn]))]
    others := fun b hb' _ => hold b hb'
    new := fun i hi' => by
      by_cases e : i = f
      · subst e; exact .inr (by rw [hbf]; exact Nat.le_refl _)
      · rw [hh i e] at hi'; exact .inl ⟨i, hi', hb i e⟩
    pubnew := fun b o p => by
      rcases p with p | ⟨rfl, _⟩
      · exact .inl p
      · exact .inr (.inl (Nat.le_refl _))
    vec := fun i b k ds e => by
      have : i ≠ f := fun e' => hnv b k ds (e' ▸ e)
      refine .inr ⟨ds, by rw [hh i this, e], Nat.le_refl _, fun hb' => ⟨hb i this, ?_⟩⟩
      simp only [World.shape?]
      rw [hold _ (hi.lt i (by rw [e]; exact hb'))]
    gone := fun i e => by
      have : i ≠ f := fun e' => hng (e' ▸ e)
      rw [hh i this, e]
    smap := fun i l e => by
      have : i ≠ f := fun e' => hns l (e' ▸ e)
      exact ⟨⟨l, by rw [hh i this, e]⟩, hb i this⟩ }
  have hnew : (w.alloc (.cells cs T)).heap[w.heap.size]? = some (.cells cs T (0, 0)) := by show (w.heap.push _)[w.heap.size]? = _; simp
  refine ⟨{ lt := fun i hi' => ?_, inj := fun i j h1 h2 e => ?_, publt := fun b o p => ?_, box := fun i ds e => ?_, front := fun i n k e hn => ?_, vec := fun i b k ds e => ?_, smap := fun i l e => ?_ }, ext⟩
  · by_cases e : i = f
    · subst e; rw [hbf]; simp
    · rw [hh i e] at hi'; rw [hb i e]; have := hi.lt i hi'; simp; omega
  · by_cases e1 : i = f <;> by_cases e2 : j = f
    · rw [e1, e2]
    · subst e1; rw [hbf, hb j e2] at e; rw [hh j e2] at h2; have := hi.lt j h2; omega
    · subst e2; rw [hbf, hb i e1] at e; rw [hh i e1] at h1; have := hi.lt i h1; omega
    · rw [hb i e1, hb j e2] at e; rw [hh i e1] at h1; rw [hh j e2] at h2; exact hi.inj i j h1 h2 e
  · rcases p with p | ⟨rfl, _⟩
    · have := hi.publt b o p; simp; omega
    · simp
  · by_cases e1 : i = f
    · subst e1
      obtain ⟨p1, p2⟩ := hbox ds e
      rw [hbf]
      refine ⟨fun o p => ?_, cs, T, hnew, p2.size, fun j c d a b => ⟨(p2.rel j c d a b).ext ext, p2.one j c a⟩⟩
      rcases p with p | ⟨_, p⟩
      · have := hi.publt _ o p; omega
      · exact p1 o p
    · rw [hh i e1] at e
      obtain ⟨p1, cs', T', p2, p3, p4⟩ := hi.box i ds e
      have hlt := hi.lt i (by rw [e]; rfl)
      rw [hb i e1]
      refine ⟨fun o p => ?_, cs', T', by rw [hold _ hlt]; exact p2, p3, fun j c d a b => ⟨(p4 j c d a b).1.ext ext, (p4 j c d a b).2⟩⟩
      rcases p with p | ⟨p, _⟩
      · exact p1 o p
      · omega
  · by_cases e1 : i = f
    · subst e1
      rw [hbf]
      refine ⟨⟨cs, T, hnew⟩, fun o ho p => ?_⟩
      rcases p with p | ⟨_, p⟩
      · have := hi.publt _ o p; omega
      · exact hfr n k e hn o ho p
    · rw [hh i e1] at e
      obtain ⟨⟨cs', T', p2⟩, p3⟩ := hi.front i n k e hn
      have hlt := hi.lt i (by rw [e]; simp [O.has, hn])
      rw [hb i e1]
      refine ⟨⟨cs', T', by rw [hold _ hlt]; exact p2⟩, fun o ho p => ?_⟩
      rcases p with p | ⟨p, _⟩
      · exact p3 o ho p
      · omega
  · by_cases e1 : i = f
    · subst e1
      obtain ⟨p0, p1, p2⟩ := hvec b k ds e
      rw [hbf]
      refine ⟨fun hb' => (by rw [p0] at hb'; cases hb'), fun _ => ⟨fun o p => ?_, cs, T, hnew, p2.size, fun j c d a b => ⟨(p2.rel j c d a b).1.ext ext, (p2.rel j c d a b).2⟩⟩⟩
      rcases p with p | ⟨_, p⟩
      · have := hi.publt _ o p; omega
      · exact p1 o p
    · rw [hh i e1] at e
      obtain ⟨p0, p⟩ := hi.vec i b k ds e
      refine ⟨p0, fun hb' => ?_⟩
      obtain ⟨p1, cs', T', p2, p3, p4⟩ := p hb'
      have hlt := hi.lt i (by rw [e]; exact hb')
      rw [hb i e1]
      refine ⟨fun o p => ?_, cs', T', by rw [hold _ hlt]; exact p2, p3, fun j c d a b => ⟨(p4 j c d a b).1.ext ext, (p4 j c d a b).2⟩⟩
      rcases p with p | ⟨p, _⟩
      · exact p1 o p
      · omega
  · have e1 : i ≠ f := fun e' => hsm l (e' ▸ e)
    rw [hh i e1] at e
    obtain ⟨p1, es, ck, p2, p3, p4⟩ := hi.smap i l e
    have hlt := hi.lt i (by rw [e]; rfl)
    rw [hb i e1]
    refine ⟨fun o p => ?_, es, ck, by rw [hold _ hlt]; exact p2, p3, fun j e p a b => ⟨(p4 j e p a b).1, (p4 j e p a b).2.mono ext.pub⟩⟩
    rcases p with p | ⟨p, _⟩
    · exact p1 o p
    · omega

/-- A new block that nobody writes any more. -/
theorem alloc_pub {w : World} {G : Gh} {h : Hp} {cs : Array Value} {T : TypeId} {fr : Nat × Nat} (hi : Inv w G h) :
    Inv (w.alloc (.cells cs T fr)) ⟨fun x o => G.pub x o ∨ x = w.heap.size, G.blk⟩ h ∧ Ext w G h (w.alloc (.cells cs T fr)) ⟨fun x o => G.pub x o ∨ x = w.heap.size, G.blk⟩ h := by
  have hold : ∀ b, b < w.heap.size → (w.alloc (.cells cs T fr)).heap[b]? = w.heap[b]? := fun b e => RowKit.Below.heap_alloc _ _ _ e
  have ext : Ext w G h (w.alloc (.cells cs T fr)) ⟨fun x o => G.pub x o ∨ x = w.heap.size, G.blk⟩ h := {
    os := rfl
    tape := rfl
    output := rfl
    size := by simp
    pub := fun b o p => ⟨.inl p, World.cell?_alloc_lt _ _ _ (hi.publt b o p)⟩
    box := fun i ds e => ⟨⟨ds, e, rfl⟩, rfl⟩
    tok := fun i n k e => ⟨n, e, Nat.le_refl _, fun _ hn => ⟨rfl, by simp only [World.shape?]; rw [hold _ (hi.lt i (by rw [e]; simp [O.has, hn]))]⟩⟩
    others := fun b hb' _ => hold b hb'
    new := fun i hi' => .inl ⟨i, hi', rfl⟩
    pubnew := fun b o p => by
      rcases p with p | rfl
      · exact .inl p
      · exact .inr (.inl (Nat.le_refl _))
    vec := fun i b k ds e => .inr ⟨ds, e, Nat.le_refl _, fun hb' => ⟨rfl, by simp only [World.shape?]; rw [hold _ (hi.lt i (by rw [e]; exact hb'))]⟩⟩
    gone := fun _ e => e
    smap := fun _ l e => ⟨⟨l, e⟩, rfl⟩ }
  refine ⟨{ lt := fun i hi' => ?_, inj := fun i j h1 h2 e => hi.inj i j h1 h2 e, publt := fun b o p => ?_, box := fun i ds e => ?_, front := fun i n k e hn => ?_, vec := fun i b k ds e => ?_, smap := fun i l e => ?_ }, ext⟩
  · have := hi.lt i hi'; simp; omega
  · rcases p with p | rfl
    · have := hi.publt b o p; simp; omega
    · simp
  · obtain ⟨p1, cs', T', p2, p3, p4⟩ := hi.box i ds e
    have hlt := hi.lt i (by rw [e]; rfl)
    refine ⟨fun o p => ?_, cs', T', by rw [hold _ hlt]; exact p2, p3, fun j c d a b => ⟨(p4 j c d a b).1.ext ext, (p4 j c d a b).2⟩⟩
    rcases p with p | p
    · exact p1 o p
    · exact absurd p (Nat.ne_of_lt hlt)
  · obtain ⟨⟨cs', T', p2⟩, p3⟩ := hi.front i n k e hn
    have hlt := hi.lt i (by rw [e]; simp [O.has, hn])
    refine ⟨⟨cs', T', by rw [hold _ hlt]; exact p2⟩, fun o ho p => ?_⟩
    rcases p with p | p
    · exact p3 o ho p
    · exact absurd p (Nat.ne_of_lt hlt)
  · obtain ⟨p0, p⟩ := hi.vec i b k ds e
    refine ⟨p0, fun hb' => ?_⟩
    obtain ⟨p1, cs', T', p2, p3, p4⟩ := p hb'
    have hlt := hi.lt i (by rw [e]; exact hb')
    refine ⟨fun o p => ?_, cs', T', by rw [hold _ hlt]; exact p2, p3, fun j c d a b => ⟨(p4 j c d a b).1.ext ext, (p4 j c d a b).2⟩⟩
    rcases p with p | p
    · exact p1 o p
    · exact absurd p (Nat.ne_of_lt hlt)
  · obtain ⟨p1, es, ck, p2, p3, p4⟩ := hi.smap i l e
    have hlt := hi.lt i (by rw [e]; rfl)
    refine ⟨fun o p => ?_, es, ck, by rw [hold _ hlt]; exact p2, p3, fun j e p a b => ⟨(p4 j e p a b).1, (p4 j e p a b).2.mono ext.pub⟩⟩
    rcases p with p | p
    · exact p1 o p
    · exact absurd p (Nat.ne_of_lt hlt)

/-- A draw from the tape changes nothing. -/
theorem drew_step {w : World} {G : Gh} {h : Hp} (hi : Inv w G h) : Inv w.drew G h ∧ Ext w G h w.drew G h := by
  have ext : Ext w G h w.drew G h := ⟨rfl, rfl, rfl, Nat.le_refl _, fun _ _ p => ⟨p, rfl⟩, fun _ ds e => ⟨⟨ds, e, rfl⟩, rfl⟩, fun _ n _ e => ⟨n, e, Nat.le_refl _, fun _ _ => ⟨rfl, rfl⟩⟩, fun _ _ _ => rfl, fun i e => .inl ⟨i, e, rfl⟩, fun _ _ p => .inl p,
    fun _ _ _ ds e => .inr ⟨ds, e, Nat.le_refl _, fun _ => ⟨rfl, rfl⟩⟩, fun _ e => e, fun _ l e => ⟨⟨l, e⟩, rfl⟩⟩
  exact ⟨⟨hi.lt, hi.inj, hi.publt, fun i ds e => by
    obtain ⟨p1, cs', T', p2, p3, p4⟩ := hi.box i ds e
    exact ⟨p1, cs', T', p2, p3, fun j c d a b => ⟨(p4 j c d a b).1.ext ext, (p4 j c d a b).2⟩⟩, hi.front, fun i b k ds e => by
    obtain ⟨p0, p⟩ := hi.vec i b k ds e
    refine ⟨p0, fun hb => ?_⟩
    obtain ⟨p1, cs', T', p2, p3, p4⟩ := p hb
    exact ⟨p1, cs', T', p2, p3, fun j c d a b => ⟨(p4 j c d a b).1.ext ext, (p4 j c d a b).2⟩⟩, fun i l e => by
    obtain ⟨p1, es, ck, p2, p3, p4⟩ := hi.smap i l e
    exact ⟨p1, es, ck, p2, p3, fun j e p a b => ⟨(p4 j e p a b).1, (p4 j e p a b).2.mono ext.pub⟩⟩⟩, ext⟩

theorem happ_al (h : Hp) (f : Nat) (d : Option D) (ob : O) : happ h f { d := d, al := [ob] } = fun i => if i = f then ob else h i := by
  funext i
  simp only [happ, List.length_cons, List.length_nil, List.find?_nil]
  by_cases e : i = f
  · subst e; simp
  · rw [if_neg (by omega), if_neg e]

/-- A step that makes one thing. -/
theorem Sound.al {ow : Prop} {d : D} {ob : O} (hgd : gd = false) (hk : K ow { d := some d, al := [ob] })
    (hs : ow → g = true → ∀ w G h a, Inv w G h → h f = .dead → Rel ev w G h a → ∃ v w' G', (execOp a.eval o).run P w = .ok (.value v) w' ∧
      Inv w' G' (fun i => if i = f then ob else h i) ∧ Ext w G h w' G' (fun i => if i = f then ob else h i) ∧ Rv w' G' (fun i => if i = f then ob else h i) v d) :
    Sound P o ev hpR f gd g K := by
  refine ⟨ow, _, hk, fun hg => (by rw [hgd] at hg; cases hg), by simp, fun ho hg => ?_⟩
  intro w G h a K Q hi _ hd hr hk
  obtain ⟨v, w', G', e, i', x', r⟩ := hs ho hg w G h a hi (by simpa using hd 0 (by simp)) hr
  rw [happ_al] at hk
  exact wp_of_run e (hk v w' G' (fun d' e' => by cases e'; exact r) i' x')

/-- A step that makes memory which is published at once, or only draws. -/
theorem Sound.al0 {ow : Prop} {d : D} (hgd : gd = false) (hk : K ow { d := some d })
    (hs : ow → g = true → ∀ w G h a, Inv w G h → Rel ev w G h a → ∃ v w' G', (execOp a.eval o).run P w = .ok (.value v) w' ∧ Inv w' G' h ∧ Ext w G h w' G' h ∧ Rv w' G' h v d) :
    Sound P o ev hpR f gd g K := by
  refine ⟨ow, _, hk, fun hg => (by rw [hgd] at hg; cases hg), by simp, fun ho hg => ?_⟩
  intro w G h a K Q hi _ hd hr hk
  obtain ⟨v, w', G', e, i', x', r⟩ := hs ho hg w G h a hi hr
  rw [happ_pure] at hk
  exact wp_of_run e (hk v w' G' (fun d' e' => by cases e'; exact r) i' x')

theorem run_zero {w : World} {t : TypeId} {z : List Value} (hz : zerosOf P t = some z) : ∃ v, (zeroValue t).run P w = .ok v w ∧ v.cells.toList = z := by
  simp only [zerosOf, Option.map_eq_some_iff, Option.bind_eq_some_iff] at hz
  obtain ⟨v, ⟨i, hi, hv⟩, rfl⟩ := hz
  exact ⟨v, by simp [zeroValue, run_typeInfo _ hi, Result.andThen, hv], rfl⟩


theorem zeroE_rel {w : World} {pub : Nat → Nat → Prop} {v : Value} (h : okZ v = true) : RvE w pub v (zeroE v) ∧ v.oneCell' = true := by
  unfold okZ at h
  unfold zeroE
  by_cases e : isNilV v = true
  · rw [if_pos e]
    have : v = .slice none 0 0 := by
      unfold isNilV at e
      split at e
      · rfl
      · cases e
    subst this
    exact ⟨.nils fun _ => rfl, rfl⟩
  · rw [if_neg e]
    simp [e] at h
    exact ⟨.v h, okV.cell h⟩

theorem zeros_rel {w : World} {G : Gh} {h : Hp} {z : List Value} (hz : z.all okZ = true) : RvA w G h z.toArray (z.map fun v => .e (zeroE v)) := by
  rw [List.all_eq_true] at hz
  refine ⟨by simp, fun j c hc => ?_, fun j c d hc hd => ?_⟩
  · exact (zeroE_rel (w := w) (pub := G.pub) (hz c (List.mem_of_getElem? (by simpa using hc)))).2
  · simp only [List.getElem?_map, Option.map_eq_some_iff] at hd
    obtain ⟨c', hc', rfl⟩ := hd
    simp at hc
    rw [hc] at hc'; cases hc'
    exact .e (zeroE_rel (hz c (List.mem_of_getElem? hc))).1

theorem ref_new {w' : World} {G : Gh} {h : Hp} {f b : Nat} {pn : Nat → Prop} {ds : List D} : Rv w' (G.new b pn f) (fun i => if i = f then .box ds else h i) (.pointer (some ⟨b, 0, none⟩)) (.ref f 0) := by
  have := Rv.ref (w := w') (G := G.new b pn f) (h := fun i => if i = f then O.box ds else h i) (i := f) (off := 0) (ds := ds) (by simp)
  simpa [Gh.new] using this

theorem s_alloc {t : TypeId} {z : List Value} (hz : zerosOf P t = some z) (hok : z.all okZ = true)
    (hk : opE P ev hpR f dr gd g (.alloc (z.map fun v => .e (zeroE v))) K) : Sound P ⟨dst, .alloc t, ty, pos, after, gu⟩ ev hpR f gd g K := by
  simp only [opE] at hk
  obtain ⟨hgd, hk⟩ := hk
  refine Sound.al hgd hk fun _ hg w G h r hi hd hr => ?_
  obtain ⟨v, e1, e2⟩ := run_zero (w := w) hz
  have e3 : v.cells = z.toArray := by rw [← e2]
  obtain ⟨i1, x1⟩ := alloc_step (T := t) (cs := v.cells) (pn := fun _ => False) (h' := fun i => if i = f then .box (z.map fun v => .e (zeroE v)) else h i) hi (.inl hd) (fun i e => by simp [e])
    (fun ds e => by simp at e; subst e; exact ⟨fun _ p => p, by rw [e3]; exact zeros_rel hok⟩) (fun n k e => by simp at e)
  exact ⟨.pointer (some ⟨w.heap.size, 0, none⟩), _, _, exec_v (w' := w.alloc (.cells v.cells t)) (by simp [Instr.alloc, e1, Result.andThen, newVar, newRow]), i1, x1, ref_new⟩

theorem s_box {t : TypeId} {yx : Operand} {x : X} (hx : cvX yx = some x)
    (hk : opE P ev hpR f dr gd g (.box x) K) : Sound P ⟨dst, .box t yx, ty, pos, after, gu⟩ ev hpR f gd g K := by
  simp only [opE] at hk
  obtain ⟨hgd, hk⟩ := hk
  obtain ⟨o1, d1, hk1, h1⟩ := evG_spec hk
  have key : ∀ {ds : List D} {ow : Prop}, ds = d1.cells → (ow → o1 ∧ d1.stor = true) → K ow { d := some (.ref f 0), al := [.box ds] } → Sound P ⟨dst, .box t yx, ty, pos, after, gu⟩ ev hpR f gd g K := by
    intro ds ow hds hl hk1
    refine Sound.al hgd hk1 fun p1 hg w G h r hi hd hr => ?_
    have hv := (h1 (fun d' e => hr yx x d' hx e) hg (hl p1).1).cells (hl p1).2
    obtain ⟨i1, x1⟩ := alloc_step (T := t) (cs := (r.eval yx).cells) (pn := fun _ => False) (h' := fun i => if i = f then .box ds else h i) hi (.inl hd) (fun i e => by simp [e])
      (fun ds' e => by simp at e; subst e; exact ⟨fun _ p => p, by rw [hds]; exact hv⟩) (fun n k e => by simp at e)
    refine ⟨.pointer (some ⟨w.heap.size, 0, none⟩), _, _, exec_v (w' := w.alloc (.cells (r.eval yx).cells t)) (by simp [Instr.box, Result.andThen, newVar, newRow]), i1, x1, ref_new⟩
  split at hk1
  · exact key rfl (fun p => ⟨p, rfl⟩) hk1
  · rename_i h2
    refine key (ow := o1 ∧ d1.stor = true) ?_ id hk1
    cases d1 <;> first | rfl | exact absurd rfl (h2 _)

theorem happ_wr (h : Hp) (f : Nat) (d : Option D) (i : Nat) (ob : O) (tc : List Nat) : happ h f { d := d, wr := [(i, ob)], tc := tc } = fun j => if j = i then ob else h j := by
  funext j
  simp only [happ, List.length_nil, Nat.add_zero]
  rw [if_neg (by omega)]
  by_cases e : j = i
  · subst e; simp
  · rw [if_neg e]
    have : (i == j) = false := by simp; exact fun e' => e e'.symm
    simp [List.find?_cons, this]

/-- Storing cells in a box. -/
theorem store_step {w : World} {G : Gh} {h h' : Hp} {i off : Nat} {ds es : List D} {vs : Array Value} (hi : Inv w G h) (hb : h i = .box ds) (hv : RvA w G h vs es) (hl : off + es.length ≤ ds.length)
    (hh : ∀ j, j ≠ i → h' j = h j) (hn : h' i = .box (ds.take off ++ es ++ ds.drop (off + es.length))) :
    ∃ w', (storeCells ⟨G.blk i, off, none⟩ vs.toList).run P w = .ok () w' ∧ Inv w' G h' ∧ Ext w G h w' G h' := by
  obtain ⟨hnp, cs, T, hc, hcl, hcr⟩ := hi.box i ds hb
  have e1 := hv.size
  have hrun := run_storeCells_at (P := P) (G.blk i) off T vs.toList 0 cs w hc (by simp; omega) (fun v hv' => by
    obtain ⟨j, hj, rfl⟩ := List.getElem_of_mem hv'
    exact hv.one j _ (by simpa using hj))
  simp only [Nat.add_zero] at hrun
  refine ⟨_, hrun, ?_⟩
  generalize hcs' : (cs.toList.take off ++ vs.toList ++ cs.toList.drop (off + vs.toList.length)).toArray = cs'
  have hsz : cs'.size = cs.size := by rw [← hcs']; simp; omega
  have hget : ∀ m, cs'[m]? = if off ≤ m ∧ m < off + es.length then vs[m - off]? else cs[m]? := fun m => by
    rw [← hcs', List.getElem?_toArray, splice_get _ _ _ _ (by simp; omega)]
    simp [e1]
  have hrow : (w.setRow (G.blk i) cs').heap[G.blk i]? = some (.cells cs' T (0, 0)) := setRow_heap w _ cs cs' T _ hc
  have hoth : ∀ b, b ≠ G.blk i → (w.setRow (G.blk i) cs').heap[b]? = w.heap[b]? := fun b e => setRow_other w _ b cs' e
  have hne : ∀ j, (h j).has = true → j ≠ i → G.blk j ≠ G.blk i := fun j hj e e' => e (hi.inj j i hj (by rw [hb]; rfl) e')
  have ext : Ext w G h (w.setRow (G.blk i) cs') G h' := {
    os := rfl
    tape := rfl
    output := rfl
    size := by simp
    pub := fun b o p => ⟨p, World.cell?_of_block (hoth b (fun e => hnp o (e ▸ p)))⟩
    box := fun j ds' e => by
      by_cases ej : j = i
      · subst ej; rw [hb] at e; cases e
        exact ⟨⟨_, hn, by simp; omega⟩, rfl⟩
      · exact ⟨⟨ds', by rw [hh j ej, e], rfl⟩, rfl⟩
    tok := fun j n k e => by
      have ej : j ≠ i := fun ej => by subst ej; rw [hb] at e; cases e
      exact ⟨n, by rw [hh j ej, e], Nat.le_refl _, fun _ h0 => ⟨rfl, by simp only [World.shape?]; rw [hoth _ (hne j (by rw [e]; simp [O.has, h0]) ej)]⟩⟩
    others := fun b hb' ho => hoth b (fun e => ho i (by rw [hb]; rfl) e.symm)
    new := fun j hj => by
      by_cases ej : j = i
      · subst ej; exact .inl ⟨j, by rw [hb]; rfl, rfl⟩
      · rw [hh j ej] at hj; exact .inl ⟨j, hj, rfl⟩
    pubnew := fun _ _ p => .inl p
    vec := fun j b k ds' e => by
      have ej : j ≠ i := fun ej => by subst ej; rw [hb] at e; cases e
      exact .inr ⟨ds', by rw [hh j ej, e], Nat.le_refl _, fun hb' => ⟨rfl, by simp only [World.shape?]; rw [hoth _ (hne j (by rw [e]; exact hb') ej)]⟩⟩
    gone := fun j e => by
      have ej : j ≠ i := fun ej => by subst ej; rw [hb] at e; cases e
      rw [hh j ej, e]
    smap := fun j l e => by
      have ej : j ≠ i := fun ej => by subst ej; rw [hb] at e; cases e
      exact ⟨⟨l, by rw [hh j ej, e]⟩, rfl⟩ }
  have hhas : ∀ j, (h' j).has = true → (h j).has = true := fun j hj => by
    by_cases ej : j = i
    · subst ej; rw [hb]; rfl
    · rw [hh j ej] at hj; exact hj
  refine ⟨{ lt := fun j hj => by rw [setRow_size]; exact hi.lt j (hhas j hj), inj := fun a b p q e => hi.inj a b (hhas a p) (hhas b q) e, publt := fun b o p => by rw [setRow_size]; exact hi.publt b o p,
            box := fun j ds' e => ?_, front := fun j n k e h0 => ?_, vec := fun j b k ds' e => ?_, smap := fun j l e => ?_ }, ext⟩
  · by_cases ej : j = i
    · subst ej
      rw [hn] at e; cases e
      refine ⟨hnp, cs', T, hrow, by simp; omega, fun m c d hm hd => ?_⟩
      rw [hget] at hm
      rw [splice_get _ _ _ _ hl] at hd
      split at hm
      · rw [if_pos (by assumption)] at hd; exact ⟨(hv.rel _ _ _ hm hd).ext ext, hv.one _ _ hm⟩
      · rw [if_neg (by assumption)] at hd; exact ⟨(hcr _ _ _ hm hd).1.ext ext, (hcr _ _ _ hm hd).2⟩
    · rw [hh j ej] at e
      obtain ⟨p1, cs2, T2, p2, p3, p4⟩ := hi.box j ds' e
      exact ⟨p1, cs2, T2, by rw [hoth _ (hne j (by rw [e]; rfl) ej)]; exact p2, p3, fun m c d a b => ⟨(p4 m c d a b).1.ext ext, (p4 m c d a b).2⟩⟩
  · have ej : j ≠ i := fun ej => by subst ej; rw [hn] at e; cases e
    rw [hh j ej] at e
    obtain ⟨⟨cs2, T2, p2⟩, p3⟩ := hi.front j n k e h0
    exact ⟨⟨cs2, T2, by rw [hoth _ (hne j (by rw [e]; simp [O.has, h0]) ej)]; exact p2⟩, p3⟩
  · have ej : j ≠ i := fun ej => by subst ej; rw [hn] at e; cases e
    rw [hh j ej] at e
    obtain ⟨p0, p⟩ := hi.vec j b k ds' e
    refine ⟨p0, fun hb' => ?_⟩
    obtain ⟨p1, cs2, T2, p2, p3, p4⟩ := p hb'
    exact ⟨p1, cs2, T2, by rw [hoth _ (hne j (by rw [e]; exact hb') ej)]; exact p2, p3, fun m c d a b => ⟨(p4 m c d a b).1.ext ext, (p4 m c d a b).2⟩⟩
  · have ej : j ≠ i := fun ej => by subst ej; rw [hn] at e; cases e
    rw [hh j ej] at e
    obtain ⟨p1, es2, ck, p2, p3, p4⟩ := hi.smap j l e
    exact ⟨p1, es2, ck, by rw [hoth _ (hne j (by rw [e]; rfl) ej)]; exact p2, p3, fun m e p a b => ⟨(p4 m e p a b).1, (p4 m e p a b).2.mono ext.pub⟩⟩

/-- Storing cells in a slice that is written in place. -/
theorem vec_write {w : World} {G : Gh} {h h' : Hp} {i off k : Nat} {ds es : List D} {vs cs : Array Value} {T : TypeId} (hi : Inv w G h) (hb : h i = .vec true k ds) (hc : w.heap[G.blk i]? = some (.cells cs T (0, 0)))
    (hv : RvA w G h vs es) (hl : off ≤ ds.length) (hroom : off + es.length ≤ cs.size)
    (hh : ∀ j, j ≠ i → h' j = h j) (hn : h' i = .vec true k (ds.take off ++ es ++ ds.drop (off + es.length))) :
    ∃ w' cs', (storeCells ⟨G.blk i, off, none⟩ vs.toList).run P w = .ok () w' ∧ Inv w' G h' ∧ Ext w G h w' G h' ∧ w'.heap[G.blk i]? = some (.cells cs' T (0, 0)) ∧ cs'.size = cs.size := by
  obtain ⟨hnp, cs0, T0, hc0, hcl, hcr⟩ := (hi.vec i true k ds hb).2 rfl
  rw [hc] at hc0
  simp only [Option.some.injEq, Obj.cells.injEq] at hc0
  obtain ⟨rfl, rfl, _⟩ := hc0
  have e1 := hv.size
  have hrun := run_storeCells_at (P := P) (G.blk i) off T vs.toList 0 cs w hc (by simp; omega) (fun v hv' => by
    obtain ⟨j, hj, rfl⟩ := List.getElem_of_mem hv'
    exact hv.one j _ (by simpa using hj))
  simp only [Nat.add_zero] at hrun
  generalize hcs' : (cs.toList.take off ++ vs.toList ++ cs.toList.drop (off + vs.toList.length)).toArray = cs' at hrun
  have hsz : cs'.size = cs.size := by rw [← hcs']; simp; omega
  have hget : ∀ m, cs'[m]? = if off ≤ m ∧ m < off + es.length then vs[m - off]? else cs[m]? := fun m => by
    rw [← hcs', List.getElem?_toArray, splice_get _ _ _ _ (by simp; omega)]
    simp [e1]
  have hrow : (w.setRow (G.blk i) cs').heap[G.blk i]? = some (.cells cs' T (0, 0)) := setRow_heap w _ cs cs' T _ hc
  have hoth : ∀ b, b ≠ G.blk i → (w.setRow (G.blk i) cs').heap[b]? = w.heap[b]? := fun b e => setRow_other w _ b cs' e
  have hne : ∀ j, (h j).has = true → j ≠ i → G.blk j ≠ G.blk i := fun j hj e e' => e (hi.inj j i hj (by rw [hb]; rfl) e')
  have hlen : ds.length ≤ (ds.take off ++ es ++ ds.drop (off + es.length)).length := by simp; omega
  have ext : Ext w G h (w.setRow (G.blk i) cs') G h' := {
    os := rfl
    tape := rfl
    output := rfl
    size := by simp
    pub := fun b o p => ⟨p, World.cell?_of_block (hoth b (fun e => hnp o (e ▸ p)))⟩
    box := fun j ds' e => by
      have ej : j ≠ i := fun ej => by subst ej; rw [hb] at e; cases e
      exact ⟨⟨ds', by rw [hh j ej, e], rfl⟩, rfl⟩
    tok := fun j n k e => by
      have ej : j ≠ i := fun ej => by subst ej; rw [hb] at e; cases e
      exact ⟨n, by rw [hh j ej, e], Nat.le_refl _, fun _ h0 => ⟨rfl, by simp only [World.shape?]; rw [hoth _ (hne j (by rw [e]; simp [O.has, h0]) ej)]⟩⟩
    others := fun b hb' ho => hoth b (fun e => ho i (by rw [hb]; rfl) e.symm)
    new := fun j hj => by
      by_cases ej : j = i
      · subst ej; exact .inl ⟨j, by rw [hb]; rfl, rfl⟩
      · rw [hh j ej] at hj; exact .inl ⟨j, hj, rfl⟩
    pubnew := fun _ _ p => .inl p
    vec := fun j b k ds' e => by
      by_cases ej : j = i
      · subst ej; rw [hb] at e; cases e
        exact .inr ⟨_, hn, hlen, fun _ => ⟨rfl, by rw [shape_size hrow, shape_size hc, hsz]⟩⟩
      · exact .inr ⟨ds', by rw [hh j ej, e], Nat.le_refl _, fun hb' => ⟨rfl, by simp only [World.shape?]; rw [hoth _ (hne j (by rw [e]; exact hb') ej)]⟩⟩
    gone := fun j e => by
      have ej : j ≠ i := fun ej => by subst ej; rw [hb] at e; cases e
      rw [hh j ej, e]
    smap := fun j l e => by
      have ej : j ≠ i := fun ej => by subst ej; rw [hb] at e; cases e
      exact ⟨⟨l, by rw [hh j ej, e]⟩, rfl⟩ }
  have hhas : ∀ j, (h' j).has = true → (h j).has = true := fun j hj => by
    by_cases ej : j = i
    · subst ej; rw [hb]; rfl
    · rw [hh j ej] at hj; exact hj
  refine ⟨_, cs', hrun, { lt := fun j hj => by rw [setRow_size]; exact hi.lt j (hhas j hj), inj := fun a b p q e => hi.inj a b (hhas a p) (hhas b q) e, publt := fun b o p => (by rw [setRow_size]; exact hi.publt b o p), box := fun j ds' e => ?_, front := fun j n k e h0 => ?_, vec := fun j b k ds' e => ?_, smap := fun j l e => ?_ }, ext, hrow, hsz⟩
  · have ej : j ≠ i := fun ej => by subst ej; rw [hn] at e; cases e
    rw [hh j ej] at e
    obtain ⟨p1, cs2, T2, p2, p3, p4⟩ := hi.box j ds' e
    exact ⟨p1, cs2, T2, by rw [hoth _ (hne j (by rw [e]; rfl) ej)]; exact p2, p3, fun m c d a b => ⟨(p4 m c d a b).1.ext ext, (p4 m c d a b).2⟩⟩
  · have ej : j ≠ i := fun ej => by subst ej; rw [hn] at e; cases e
    rw [hh j ej] at e
    obtain ⟨⟨cs2, T2, p2⟩, p3⟩ := hi.front j n k e h0
    exact ⟨⟨cs2, T2, by rw [hoth _ (hne j (by rw [e]; simp [O.has, h0]) ej)]; exact p2⟩, p3⟩
  · by_cases ej : j = i
    · subst ej
      rw [hn] at e; cases e
      refine ⟨fun hb' => (by cases hb'), fun _ => ⟨hnp, cs', T, hrow, by simp; omega, fun m c d hm hd => ?_⟩⟩
      rw [hget] at hm
      rw [splice_get' _ _ _ _ hl] at hd
      split at hm
      · rw [if_pos (by assumption)] at hd; exact ⟨(hv.rel _ _ _ hm hd).ext ext, hv.one _ _ hm⟩
      · rw [if_neg (by assumption)] at hd; exact ⟨(hcr _ _ _ hm hd).1.ext ext, (hcr _ _ _ hm hd).2⟩
    · rw [hh j ej] at e
      obtain ⟨p0, p⟩ := hi.vec j b k ds' e
      refine ⟨p0, fun hb' => ?_⟩
      obtain ⟨p1, cs2, T2, p2, p3, p4⟩ := p hb'
      exact ⟨p1, cs2, T2, by rw [hoth _ (hne j (by rw [e]; exact hb') ej)]; exact p2, p3, fun m c d a b => ⟨(p4 m c d a b).1.ext ext, (p4 m c d a b).2⟩⟩
  · have ej : j ≠ i := fun ej => by subst ej; rw [hn] at e; cases e
    rw [hh j ej] at e
    obtain ⟨p1, es2, ck, p2, p3, p4⟩ := hi.smap j l e
    exact ⟨p1, es2, ck, by rw [hoth _ (hne j (by rw [e]; rfl) ej)]; exact p2, p3, fun m e p a b => ⟨(p4 m e p a b).1, (p4 m e p a b).2.mono ext.pub⟩⟩

theorem s_store {t : TypeId} {ya yx : Operand} {a x : X} {ag : Bool} {n : Nat} (ha : cvX ya = some a) (hx : cvX yx = some x) (hinf : ∃ i, P.info? t = some i) (hn : P.cellsOf t = n)
    (hk : opE P ev hpR f dr gd g (.store ag n a x) K) : Sound P ⟨dst, .store t ya yx, ty, pos, after, gu⟩ ev hpR f gd g K := by
  obtain ⟨inf, hinf⟩ := hinf
  simp only [opE] at hk
  obtain ⟨hgd, hk⟩ := hk
  obtain ⟨o1, d0, hk1, h00⟩ := evG_spec hk
  have h1 := @nr_spec _ _ _ _ @h00
  generalize d0.nr = d1 at hk1 h1
  obtain ⟨o2, d2, hk2, h2⟩ := evG_spec hk1
  split at hk2
  case h_3 => exact hk2.elim
  case h_2 =>
    rename_i i off
    split at hk2
    case h_2 => exact hk2.elim
    rename_i fl k0 ds hds
    refine ⟨_, _, hk2, fun hg => (by rw [hgd] at hg; cases hg), by simp, fun ⟨p1, p2, p3, p4, p5⟩ hg => ?_⟩
    intro w G h r K Q hi ht _ hr hk
    have hb : h i = .vec fl k0 ds := by rw [ht i (by simp), hds]
    obtain ⟨b, e1, _, e3⟩ := rv_vref (h1 (fun d' e => hr ya a d' ha e) hg p1)
    obtain ⟨rfl, rfl⟩ := e3 _ _ _ hb
    have hv := (h2 (fun d' e => hr yx x d' hx e) hg p2).cells p5
    rw [happ_wr] at hk
    obtain ⟨_, cs, T, hc, hcl, _⟩ := (hi.vec i true k0 ds hb).2 rfl
    obtain ⟨w', cs', q1, q2, q3, _⟩ := vec_write (P := P) (off := off) (h' := fun j => if j = i then .vec true k0 (ds.take off ++ d2.cells ++ ds.drop (off + n)) else h j) hi hb hc hv (by omega) (by omega) (fun j e => by simp [e]) (by simp [p3])
    have hsz : (r.eval yx).cells.size = n := by rw [hv.size, p3]
    have hrun : (execOp r.eval ⟨dst, .store t ya yx, ty, pos, after, gu⟩).run P w = .ok .skip w' := by
      have hs : ¬ (r.eval yx).cells.size ≠ P.cellsOf t := by rw [hn]; simp [hsz]
      simp only [execOp, Instr.storeAt, e1, Instr.sureAddr, storeVar, Sem.run_bind, Sem.run_pure, Result.andThen, run_sizeOf w hinf, if_neg hs]
      rw [q1]
    unfold Oper.wp
    rw [hrun]
    exact hk undef w' G (fun d' e' => by cases e') q2 q3
  rename_i i off
  split at hk2
  case h_2 => exact hk2.elim
  rename_i ds hds
  refine ⟨_, _, hk2, fun hg => (by rw [hgd] at hg; cases hg), by simp, fun ⟨p1, p2, p3, p4, p5⟩ hg => ?_⟩
  intro w G h r K Q hi ht _ hr hk
  have hb : h i = .box ds := by rw [ht i (by simp), hds]
  obtain ⟨e1, _⟩ := rv_ref (h1 (fun d' e => hr ya a d' ha e) hg p1)
  have hv := (h2 (fun d' e => hr yx x d' hx e) hg p2).cells p5
  rw [happ_wr] at hk
  obtain ⟨w', q1, q2, q3⟩ := store_step (P := P) (off := off) (h' := fun j => if j = i then .box (ds.take off ++ d2.cells ++ ds.drop (off + n)) else h j) hi hb hv (by omega) (fun j e => by simp [e]) (by simp [p3])
  have hsz : (r.eval yx).cells.size = n := by rw [hv.size, p3]
  have hrun : (execOp r.eval ⟨dst, .store t ya yx, ty, pos, after, gu⟩).run P w = .ok .skip w' := by
    have hs : ¬ (r.eval yx).cells.size ≠ P.cellsOf t := by rw [hn]; simp [hsz]
    simp only [execOp, Instr.storeAt, e1, Instr.sureAddr, storeVar, Sem.run_bind, Sem.run_pure, Result.andThen, run_sizeOf w hinf, if_neg hs]
    rw [q1]
  unfold Oper.wp
  rw [hrun]
  exact hk undef w' G (fun d' e' => by cases e') q2 q3

theorem parts_get {ys : List (Nat × Operand)} : ∀ {xs : List (Nat × X)}, parts? ys = some xs → xs.length = ys.length ∧ ∀ (j : Nat) y, ys[j]? = some y → ∃ x, xs[j]? = some (y.1, x) ∧ cvX y.2 = some x := by
  induction ys with
  | nil => intro xs h; simp [parts?] at h; subst h; simp
  | cons y r ih =>
    intro xs h
    obtain ⟨i, y⟩ := y
    simp only [parts?, Option.bind_eq_some_iff, Option.map_eq_some_iff] at h
    obtain ⟨x, hx, xs', hxs, rfl⟩ := h
    obtain ⟨hl, hg⟩ := ih hxs
    refine ⟨by simp [hl], fun j y' hj => ?_⟩
    cases j with
    | zero => simp at hj; subst hj; exact ⟨x, by simp, hx⟩
    | succ j => simpa using hg j y' (by simpa using hj)

/-- The parts as they lie, with their places. -/
theorem build_rel {ps : Array (Nat × Operand)} {xs : List (Nat × X)} {zs : List Value} {pl : List (Nat × Nat × X)} {place : Nat → Option (Nat × Nat)} {o : Prop} {ds : List D} (hps : parts? ps.toList = some xs) (hz : zs.all okZ = true)
    (hpl : pl.length = xs.length ∧ ∀ (j : Nat) x, xs[j]? = some x → ∃ off n, pl[j]? = some (off, n, x.2) ∧ place x.1 = some (off, n))
    (hl : ds.length = (pl.map fun p => ev p.2.2).length)
    (h1 : ∀ {w G h}, g = true → o → ∀ (j : Nat) v d, (∀ d', (pl.map fun p => ev p.2.2)[j]? = some (some d') → Rv w G h v d') → ds[j]? = some d → Rv w G h v d)
    (hst : ∀ d ∈ ds, d.stor = true) (hb : ∀ j, j < pl.length → (((ds.getD j .zs).cells.length = (pl.getD j default).2.1) ∧ (pl.getD j default).1 + (pl.getD j default).2.1 ≤ zs.length))
    {w G h} {a : Act} (hr : Rel ev w G h a) (hg : g = true) (ho : o) {z : Array Value} (hzz : z = zs.toArray) :
    ∃ cs', Instr.fill place z (ps.map fun (i, x) => (i, a.eval x)).toList = some cs' ∧ RvA w G h cs' (fillD (zs.map fun v => .e (zeroE v)) ((pl.zip ds).map fun (p, d) => (p.1, p.2.1, d.cells))) := by
  obtain ⟨hxl, hxg⟩ := parts_get hps
  obtain ⟨hpl1, hpl2⟩ := hpl
  subst hzz
  refine fill_rel place _ _ _ _ (zeros_rel hz) (by simp at hl hxl ⊢; omega) fun j p q hp hq => ?_
  simp only [Array.toList_map, List.getElem?_map, Option.map_eq_some_iff] at hp hq
  obtain ⟨⟨i, y⟩, hy, rfl⟩ := hp
  obtain ⟨⟨p', d⟩, hpd, rfl⟩ := hq
  obtain ⟨hp', hd⟩ := List.getElem?_zip_eq_some.1 hpd
  obtain ⟨x, hx1, hx2⟩ := hxg j (i, y) hy
  obtain ⟨off, n, e1, e2⟩ := hpl2 j _ hx1
  rw [hp'] at e1; cases e1
  have hj : j < pl.length := (List.getElem?_eq_some_iff.1 hp').1
  obtain ⟨b1, b2⟩ := hb j hj
  simp only [List.getD, hp', hd, Option.getD_some] at b1 b2
  refine ⟨e2, ?_, b1, by simpa using b2⟩
  have hv := h1 (w := w) (G := G) (h := h) hg ho j (a.eval y) d (fun d' e => hr y x d' hx2 (by simpa [hp'] using e)) hd
  exact hv.cells (hst d (List.mem_of_getElem? hd))

theorem places_get {fs : Array Field} : ∀ {xs : List (Nat × X)} {pl : List (Nat × Nat × X)}, places? P fs xs = some pl → pl.length = xs.length ∧
    ∀ (j : Nat) x, xs[j]? = some x → ∃ fd, fs[x.1]? = some fd ∧ pl[j]? = some (fd.offset, P.cellsOf fd.type, x.2) := by
  intro xs
  induction xs with
  | nil => intro pl h; simp [places?] at h; subst h; simp
  | cons x r ih =>
    intro pl h
    obtain ⟨i, x⟩ := x
    simp only [places?, Option.bind_eq_some_iff, Option.map_eq_some_iff] at h
    obtain ⟨fd, hfd, pl', hpl, rfl⟩ := h
    obtain ⟨hl, hg⟩ := ih hpl
    refine ⟨by simp [hl], fun j y hj => ?_⟩
    cases j with
    | zero => simp at hj; subst hj; exact ⟨fd, hfd, rfl⟩
    | succ j => simpa using hg j y (by simpa using hj)

theorem run_places {w : World} (fs : Array Field) (hf : ∀ fd ∈ fs.toList, ∃ i, P.info? fd.type = some i) :
    (fs.mapM fun f => do pure (f.offset, ← sizeOf f.type) : Sem (Array (Nat × Nat))).run P w = .ok (fs.map fun f => (f.offset, P.cellsOf f.type)) w := by
  have key : ∀ (l : List Field), (∀ fd ∈ l, ∃ i, P.info? fd.type = some i) → (l.mapM fun f => Prod.mk f.offset <$> sizeOf f.type : Sem (List (Nat × Nat))).run P w = .ok (l.map fun f => (f.offset, P.cellsOf f.type)) w := by
    intro l
    induction l with
    | nil => intro _; rfl
    | cons fd l ih =>
      intro h
      obtain ⟨i, hi⟩ := h fd (by simp)
      rw [List.mapM_cons]
      simp only [Sem.run_bind, Sem.run_map, run_sizeOf w hi, Result.andThen, Sem.run_pure, ih (fun x hx => h x (by simp [hx])), List.map_cons]
  rw [Array.mapM_eq_mapM_toList]
  simp [key fs.toList hf, Result.andThen]
  apply Array.ext'
  simp

theorem s_build {t : TypeId} {z : List Value} {ps : Array (Nat × Operand)} {xs : List (Nat × X)} {pl : List (Nat × Nat × X)} (hz : zerosOf P t = some z) (hok : z.all okZ = true) (hps : parts? ps.toList = some xs)
    (hd : (∃ fs, P.underlying t = some (.struct fs) ∧ places? P fs xs = some pl ∧ ∀ fd ∈ fs.toList, ∃ i, P.info? fd.type = some i) ∨
      (∃ n e, P.underlying t = some (.array n e) ∧ pl = xs.map (fun (i, x) => (i * P.cellsOf e, P.cellsOf e, x)) ∧ ∃ i, P.info? e = some i))
    (hk : opE P ev hpR f dr gd g (.build (z.map fun v => .e (zeroE v)) pl) K) : Sound P ⟨dst, .build t ps, ty, pos, after, gu⟩ ev hpR f gd g K := by
  simp only [opE] at hk
  obtain ⟨o1, ds, hk1, hl1, h1⟩ := evGs_spec hk
  refine Sound.pure (tc := []) hk1 fun ⟨p1, p23⟩ hg w G h r hi _ hr => ?_
  obtain ⟨p2, p3⟩ := buildOk_all p23
  obtain ⟨v, e1, e2⟩ := run_zero (w := w) hz
  have e3 : v.cells = z.toArray := by rw [← e2]
  simp only [List.length_map] at p3
  rcases hd with ⟨fs, hu, hpl, hf⟩ | ⟨n, e, hu, hpl, i, hi'⟩
  · obtain ⟨q1, q2⟩ := places_get hpl
    obtain ⟨cs', c1, c2⟩ := build_rel (place := ((fs.map fun f => (f.offset, P.cellsOf f.type))[·]?)) hps hok ⟨q1, fun j x hx => by
      obtain ⟨fd, y1, y2⟩ := q2 j x hx
      exact ⟨_, _, y2, by simp [y1]⟩⟩ hl1 h1 p2 p3 hr hg p1 e3
    refine ⟨.agg cs', exec_v (w' := w) ?_, .agg c2.size c2.one c2.rel⟩
    simp only [Instr.build, Sem.run_bind, e1, Result.andThen, run_underlying hu, run_places fs hf, c1, Sem.run_pure]
  · obtain ⟨cs', c1, c2⟩ := build_rel (place := fun i => some (i * P.cellsOf e, P.cellsOf e)) hps hok ⟨by rw [hpl]; simp, fun j x hx => by
      exact ⟨_, _, by rw [hpl]; simp [hx], rfl⟩⟩ hl1 h1 p2 p3 hr hg p1 e3
    refine ⟨.agg cs', exec_v (w' := w) ?_, .agg c2.size c2.one c2.rel⟩
    simp only [Instr.build, Sem.run_bind, e1, Result.andThen, run_underlying hu, run_sizeOf w hi', c1, Sem.run_pure]

theorem RvA.list {w G h} {cs : Array Value} {ds : List E} (hl : cs.size = ds.length) (hr : ∀ (j : Nat) c d, cs[j]? = some c → ds[j]? = some d → RvE w G.pub c d) : RvA w G h cs (ds.map .e) := by
  refine ⟨by simp [hl], fun j c hc => ?_, fun j c d hc hd => ?_⟩
  · have hj : j < ds.length := by rw [← hl]; exact (Array.getElem?_eq_some_iff.1 hc).1
    exact (hr j c _ hc (List.getElem?_eq_getElem hj)).cell
  · simp only [List.getElem?_map, Option.map_eq_some_iff] at hd
    obtain ⟨d', hd, rfl⟩ := hd
    exact .e (hr j c d' hc hd)

/-- A fresh block, published whole, reads as a slice. -/
theorem new_list {w' : World} {pub' : Nat → Nat → Prop} {b n cap k : Nat} {T : TypeId} {fr : Nat × Nat} {cs : Array Value} {es : List (List E)} (hb : w'.heap[b]? = some (.cells cs T fr))
    (hp : ∀ j, j < n * k → pub' b j) (hn : es.length = n) (hk : ∀ e ∈ es, e.length = k) (hc : n ≤ cap) (hm : n ≤ maxN) (hs : n * k ≤ cs.size)
    (hr : ∀ (j : Nat) c d, cs[j]? = some c → es.flatten[j]? = some d → RvE w' pub' c d) : RvE w' pub' (.slice (some ⟨b, 0, none⟩) n cap) (.sl es) := by
  refine .sl (fun j => cs.getD j undef) hn hc hm hk (fun j hj => ?_) (fun j d hd => ?_)
  · rw [Nat.zero_add]; exact ⟨hp j hj, by simp [World.cell?, hb, show j < cs.size by omega]⟩
  · have hj : j < n * k := by rw [← hn, ← flatten_len hk]; exact (List.getElem?_eq_some_iff.1 hd).1
    have := hr j _ d (Array.getElem?_eq_getElem (show j < cs.size by omega)) hd
    simpa [show j < cs.size by omega] using this

theorem fillE_props {k : Nat} : ∀ (ps : List (Nat × List E)) (es : List (List E)), (∀ e ∈ es, e.length = k) → (∀ p ∈ ps, p.2.length = k) → (fillE es ps).length = es.length ∧ ∀ e ∈ fillE es ps, e.length = k := by
  intro ps
  induction ps with
  | nil => intro es h _; exact ⟨rfl, h⟩
  | cons p ps ih =>
    intro es h hp
    obtain ⟨i, x⟩ := p
    obtain ⟨a, b⟩ := ih (es.set i x) (fun e he => by
      rcases List.mem_or_eq_of_mem_set he with he | rfl
      · exact h e he
      · exact hp (i, e) (by simp)) (fun q hq => hp q (by simp [hq]))
    exact ⟨by rw [fillE, a]; simp, b⟩

/-- Putting whole elements, seen on the flat list. -/
theorem fill_flat {k : Nat} (hk0 : 0 < k) : ∀ (ps : List (Nat × List E)) (es : List (List E)), (∀ e ∈ es, e.length = k) → (∀ p ∈ ps, p.2.length = k ∧ p.1 < es.length) →
    fillD (es.flatten.map .e) (ps.map fun p => (p.1 * k, k, p.2.map .e)) = (fillE es ps).flatten.map .e := by
  intro ps
  induction ps with
  | nil => intro es _ _; rfl
  | cons p ps ih =>
    intro es h hp
    obtain ⟨i, x⟩ := p
    obtain ⟨hx, hi⟩ := hp (i, x) (by simp)
    have hx : x.length = k := hx
    have hi : i < es.length := hi
    have hset : ∀ e ∈ es.set i x, e.length = k := fun e he => by
      rcases List.mem_or_eq_of_mem_set he with he | rfl
      · exact h e he
      · exact hx
    have hflat : (es.flatten.map D.e).take (i * k) ++ x.map D.e ++ (es.flatten.map D.e).drop (i * k + (x.map D.e).length) = (es.set i x).flatten.map D.e := by
      have hb : i * k + k ≤ es.flatten.length := by rw [flatten_len h, ← Nat.succ_mul]; exact Nat.mul_le_mul_right k hi
      apply List.ext_getElem?
      intro m
      rw [splice_get _ _ _ _ (by rw [List.length_map, List.length_map, hx]; exact hb)]
      simp only [List.length_map, hx, List.getElem?_map]
      by_cases hm : m < es.flatten.length
      · have e1 : m / k < es.length := by rw [flatten_len h] at hm; exact Nat.div_lt_of_lt_mul (by rw [Nat.mul_comm]; exact hm)
        have e2 : m / k * k + m % k = m := by rw [Nat.mul_comm]; exact Nat.div_add_mod m k
        have e3 := Nat.mod_lt m hk0
        have e4 : (es.set i x).flatten[m]? = ((es.set i x)[m / k]'(by simpa using e1))[m % k]? := by
          rw [← flatten_get hset (m / k) _ (m % k) (List.getElem?_eq_getElem (by simpa using e1)) e3, e2]
        have e5 : es.flatten[m]? = (es[m / k])[m % k]? := by
          rw [← flatten_get h (m / k) _ (m % k) (List.getElem?_eq_getElem e1) e3, e2]
        rw [e4]
        by_cases e : i = m / k
        · have h1 : i * k ≤ m ∧ m < i * k + k := by rw [e]; omega
          rw [if_pos h1]
          congr 1
          have : m - i * k = m % k := by rw [e]; omega
          rw [this]
          simp [← e]
        · have h1 : ¬ (i * k ≤ m ∧ m < i * k + k) := fun ⟨a, b⟩ => e (by
            have : m / k = i := by
              apply Nat.div_eq_of_lt_le
              · exact a
              · rw [Nat.succ_mul]; exact b
            exact this.symm)
          rw [if_neg h1, e5]
          rw [List.getElem_set_ne e]
      · have h1 : ¬ (i * k ≤ m ∧ m < i * k + k) := by omega
        rw [if_neg h1, List.getElem?_eq_none (by omega), List.getElem?_eq_none (by rw [flatten_len hset, List.length_set, ← flatten_len h]; omega)]
    rw [List.map_cons, fillD]
    simp only
    rw [hflat, ih _ hset (fun q hq => ⟨(hp q (by simp [hq])).1, by simpa using (hp q (by simp [hq])).2⟩)]
    rfl

theorem zero_row {w : World} {pub : Nat → Nat → Prop} {z : Array Value} {k n : Nat} (hz : z.toList.all okZ = true) (hk : z.size = k) (hk0 : 0 < k) :
    ∀ (j : Nat) c d, ((Array.range (n * k)).map (z[· % z.size]!))[j]? = some c → (List.replicate n (z.toList.map zeroE)).flatten[j]? = some d → RvE w pub c d := by
  intro j c d hc hd
  have hkk : ∀ e ∈ List.replicate n (z.toList.map zeroE), e.length = k := fun e he => by rw [List.eq_of_mem_replicate he]; simp [hk]
  have hj : j < n * k := by
    have := (Array.getElem?_eq_some_iff.1 hc).1
    simpa using this
  have e1 : j / k < n := Nat.div_lt_of_lt_mul (by rw [Nat.mul_comm]; exact hj)
  have e2 : j / k * k + j % k = j := by rw [Nat.mul_comm]; exact Nat.div_add_mod j k
  have e3 := Nat.mod_lt j hk0
  rw [← e2, flatten_get hkk (j / k) (z.toList.map zeroE) (j % k) (by simp [e1]) e3] at hd
  have e4 : j % z.size < z.size := by rw [hk]; exact e3
  simp only [List.getElem?_map, Option.map_eq_some_iff] at hd
  obtain ⟨v, hv, rfl⟩ := hd
  simp only [Array.getElem?_map, Option.map_eq_some_iff] at hc
  obtain ⟨j', hj', rfl⟩ := hc
  have : j' = j := by
    have := Array.getElem?_eq_some_iff.1 hj'
    obtain ⟨h1, h2⟩ := this
    simp at h2; exact h2.symm
  subst this
  rw [hk]
  have : z[j' % k]! = v := by
    simp at hv
    rw [getElem!_def, hv]
  rw [this]
  rw [List.all_eq_true] at hz
  exact (zeroE_rel (hz v (List.mem_of_getElem? hv))).1

theorem RvA.congr {w G h} {cs : Array Value} {ds ds' : List D} (r : RvA w G h cs ds) (e : ds = ds') : RvA w G h cs ds' := e ▸ r

theorem rva_e {w G h} {cs : Array Value} {ds : List E} (r : RvA w G h cs (ds.map .e)) : ∀ (j : Nat) c d, cs[j]? = some c → ds[j]? = some d → RvE w G.pub c d := fun j c d hc hd => by
  have := r.rel j c (.e d) hc (by simp [hd])
  cases this; assumption

theorem s_lit {t e : TypeId} {n k : Nat} {z : List Value} {ps : Array (Nat × Operand)} {xs : List (Nat × X)} (hu : P.underlying t = some (.slice e)) (hz : zerosOf P e = some z) (hok : z.all okZ = true) (hps : parts? ps.toList = some xs)
    (hke : P.cellsOf e = k) (hk0 : k ≠ 0) (hzl : z.length = k) (hbig : n * k ≤ 2 ^ 24)
    (hk : opE P ev hpR f dr gd g (.lit k (z.map zeroE) n xs) K) : Sound P ⟨dst, .buildSlice t n ps, ty, pos, after, gu⟩ ev hpR f gd g K := by
  have hkz : P.cellsOf e ≠ 0 := by rw [hke]; exact hk0
  simp only [opE] at hk
  obtain ⟨hgd, hk⟩ := hk
  have hnb : ¬ n * k > 2 ^ 24 := by omega
  split at hk
  · rename_i hn
    subst hn
    obtain ⟨hk, hemp⟩ := hk
    refine Sound.al0 hgd hk fun _ hg w G h r hi hr => ?_
    have hps0 : ps = #[] := by
      have := (parts_get hps).1
      rw [hemp] at this
      exact Array.eq_empty_of_size_eq_zero (by simpa using this.symm)
    obtain ⟨i1, x1⟩ := alloc_pub (T := e) (cs := #[]) (fr := (0, 0)) hi
    refine ⟨.slice (some ⟨w.heap.size, 0, none⟩) 0 0, _, _, exec_v (w' := w.alloc (.cells #[] e)) ?_, i1, x1, .zs (by rintro x ⟨⟩; rfl)⟩
    simp [Instr.buildSlice, run_underlying hu, Result.andThen, run_size hkz, hps0, Instr.fill, newRow]
    congr 2
    apply Array.ext'
    simp
  rename_i hn
  obtain ⟨o1, ds, hk1, hl1, h1⟩ := evGs_spec hk
  split at hk1
  case h_2 => exact hk1.elim
  rename_i es hes0
  have hes := litEs_map hes0
  have core : ∀ {w : World} {G : Gh} {h : Hp} {r : Act}, o1 → allLen k es → allIx n xs → g = true → Rel ev w G h r → ∃ cs', RvA w G h cs' ((fillE (List.replicate n (z.map zeroE)) ((xs.map (·.1)).zip es)).flatten.map .e) ∧ cs'.size = n * k ∧
      (fillE (List.replicate n (z.map zeroE)) ((xs.map (·.1)).zip es)).length = n ∧ (∀ e ∈ fillE (List.replicate n (z.map zeroE)) ((xs.map (·.1)).zip es), e.length = k) ∧
      (Instr.buildSlice t n (ps.map fun (i, x) => (i, r.eval x))).run P w = .ok (.slice (some ⟨w.heap.size, 0, none⟩) n n) (w.alloc (.cells cs' e)) := by
   intro w G h r p1 p2' p3' hg hr
   have p2 := allLen_iff.1 p2'
   have p3 := allIx_iff.1 p3'
   obtain ⟨v, e1, e2⟩ := run_zero (w := w) hz
   have e3 : v.cells.toList = z := e2
   have e4 : v.cells.size = k := by rw [← hzl, ← e3]; simp
   have hz' : v.cells.toList.all okZ = true := by rw [e3]; exact hok
   obtain ⟨hxl, hxg⟩ := parts_get hps
   have hesl : es.length = ds.length := by have := congrArg List.length hes; simpa using this.symm
   have row0 : RvA w G h ((Array.range (n * k)).map (v.cells[· % v.cells.size]!)) ((List.replicate n (z.map zeroE)).flatten.map .e) := by
     refine RvA.list ?_ ?_
     · rw [flatten_len (k := k) (fun e he => by rw [List.eq_of_mem_replicate he]; simp [hzl])]; simp
     · rw [← e3]; exact zero_row hz' e4 (by omega)
   obtain ⟨cs', c1, c2⟩ := fill_rel (fun i => some (i * k, k)) (ps.map fun (i, x) => (i, r.eval x)).toList (((xs.map (·.1)).zip es).map fun p => (p.1 * k, k, p.2.map .e)) _ _ row0 (by simp at hl1 hxl ⊢; omega) (fun j p q hp hq => by
     simp only [Array.toList_map, List.getElem?_map, Option.map_eq_some_iff] at hp hq
     obtain ⟨⟨i, y⟩, hy, rfl⟩ := hp
     obtain ⟨⟨i', el⟩, hq, rfl⟩ := hq
     obtain ⟨hq1, hq2⟩ := List.getElem?_zip_eq_some.1 hq
     obtain ⟨x, hx1, hx2⟩ := hxg j (i, y) hy
     have : i' = i := by simp [hx1] at hq1; exact hq1.symm
     subst this
     have hdj : j < ds.length := by rw [← hesl]; exact (List.getElem?_eq_some_iff.1 hq2).1
     have hto : toEs (ds[j]).cells = some el := by
       have := congrArg (·[j]?) hes
       simp [hdj, hq2] at this
       exact this
     have hv := h1 (w := w) (G := G) (h := h) hg p1 j (r.eval y) ds[j] (fun d' e => hr y x d' hx2 (by simpa [hx1] using e)) (List.getElem?_eq_getElem hdj)
     obtain ⟨t1, t2⟩ := toEs_rel (w := w) (G := G) (h := h) hto
     have hst : (ds[j]).stor = true := by
       cases hdd : ds[j] <;> first | rfl | (rw [hdd] at hto; simp [toEs, D.cells, D.toE] at hto)
     have hc := hv.cells hst
     have hel : el.length = k := p2 el (List.mem_of_getElem? hq2)
     refine ⟨rfl, RvA.list (by rw [hc.size, ← t1]) (fun m c d hc' hd' => ?_), by simp [hel], ?_⟩
     · have hm : m < (ds[j]).cells.length := by rw [← t1]; exact (List.getElem?_eq_some_iff.1 hd').1
       exact t2 m c d _ (List.getElem?_eq_getElem hm) hd' (hc.rel m c _ hc' (List.getElem?_eq_getElem hm))
     · have hi : i' < n := p3 (i', x) (List.mem_of_getElem? hx1)
       rw [List.length_map, flatten_len (k := k) (fun e he => by rw [List.eq_of_mem_replicate he]; simp [hzl]), List.length_replicate, ← Nat.succ_mul]
       exact Nat.mul_le_mul_right k hi)
   have hrepk : ∀ e ∈ List.replicate n (z.map zeroE), e.length = k := fun e he => by rw [List.eq_of_mem_replicate he]; simp [hzl]
   have hpsk : ∀ p ∈ (xs.map (·.1)).zip es, p.2.length = k ∧ p.1 < (List.replicate n (z.map zeroE)).length := fun p hp => by
     refine ⟨p2 _ (List.of_mem_zip hp).2, ?_⟩
     obtain ⟨x, hx, hx'⟩ := List.mem_map.1 (List.of_mem_zip hp).1
     rw [List.length_replicate, ← hx']
     exact p3 x hx
   have c3 := c2.congr (fill_flat (by omega) _ _ hrepk hpsk)
   obtain ⟨f1, f2⟩ := fillE_props ((xs.map (·.1)).zip es) (List.replicate n (z.map zeroE)) hrepk (fun p hp => (hpsk p hp).1)
   rw [List.length_replicate] at f1
   have hsz : cs'.size = n * k := by rw [c3.size, List.length_map, flatten_len f2, f1]
   refine ⟨cs', c3, hsz, f1, f2, ?_⟩
   have hz0 : ¬ n * k = 0 := by rw [Nat.mul_eq_zero]; omega
   simp only [Instr.buildSlice, Sem.run_bind, run_underlying hu, Result.andThen, run_size hkz, hke, if_neg hnb, if_neg hz0, e1, Sem.run_pure, c1]
   simp [newRow, Result.andThen]
  generalize fillE (List.replicate n (z.map zeroE)) ((xs.map (·.1)).zip es) = L at hk1 core
  have hm : n ≤ maxN := by
    have : n * 1 ≤ n * k := Nat.mul_le_mul_left n (by omega)
    simp only [maxN]; omega
  rcases hk1 with hk2 | hk2
  · refine Sound.al hgd hk2 fun ⟨p1, p2', p3'⟩ hg w G h r hi hd hr => ?_
    obtain ⟨cs', c3, hsz, f1, f2, hrun⟩ := core p1 p2' p3' hg hr
    obtain ⟨i1, x1⟩ := alloc_step (T := e) (cs := cs') (pn := fun o => o < n * k) (h' := fun i => if i = f then .front n k else h i) hi (.inl hd) (fun i e => by simp [e])
      (fun ds e => by simp at e) (fun n' k' e => by simp at e; obtain ⟨rfl, rfl⟩ := e; intro _ o ho; omega)
    have hnew : (w.alloc (.cells cs' e)).heap[w.heap.size]? = some (.cells cs' e (0, 0)) := by show (w.heap.push _)[w.heap.size]? = _; simp
    refine ⟨.slice (some ⟨w.heap.size, 0, none⟩) n n, _, _, exec_v (w' := w.alloc (.cells cs' e)) hrun, i1, x1, ?_⟩
    refine .own (k := k) (new_list hnew (fun j hj => .inr ⟨rfl, hj⟩) f1 f2 (Nat.le_refl _) hm (by omega) (fun j c d hc hd => (rva_e c3 j c d hc hd).mono x1.pub)) f2 ?_
    refine ⟨n, if_pos rfl, by omega, fun _ => .inr ⟨by omega, n, cs', e, (0, 0), ?_, ?_, by omega⟩⟩
    · simp [Gh.new, f1]
    · simpa [Gh.new] using hnew
  · refine Sound.al hgd hk2 fun ⟨p1, p2', p3'⟩ hg w G h r hi hd hr => ?_
    obtain ⟨cs', c3, hsz, f1, f2, hrun⟩ := core p1 p2' p3' hg hr
    have hfl : (L.flatten.map D.e).length = n * k := by rw [List.length_map, flatten_len f2, f1]
    obtain ⟨i1, x1⟩ := alloc_step (T := e) (cs := cs') (pn := fun _ => False) (h' := fun i => if i = f then .vec true k (L.flatten.map .e) else h i) hi (.inl hd) (fun i e => by simp [e])
      (fun ds e => by simp at e) (fun n' k' e => by simp at e) (fun b k' ds e => by cases (if_pos rfl).symm.trans e; exact ⟨rfl, fun _ p => p, by rw [hsz, hfl]; exact Nat.le_refl _, fun j c d hc hd => ⟨c3.rel j c d hc hd, c3.one j c hc⟩⟩)
    have hnew : (w.alloc (.cells cs' e)).heap[w.heap.size]? = some (.cells cs' e (0, 0)) := by show (w.heap.push _)[w.heap.size]? = _; simp
    refine ⟨.slice (some ⟨w.heap.size, 0, none⟩) n n, _, _, exec_v (w' := w.alloc (.cells cs' e)) hrun, i1, x1, ?_⟩
    refine .vec (by simp) hm (Nat.le_refl _) fun b k' ds' e' => ?_
    cases (if_pos rfl).symm.trans e'
    refine ⟨rfl, by rw [hfl]; exact Nat.le_refl _, fun hb => (by cases hb), fun _ => ⟨by simp [Gh.new], cs', e, (0, 0), by simpa [Gh.new] using hnew, by omega⟩⟩

theorem wrap_small {m : Nat} (h : m ≤ 2147483648) : IntKind.i64.wrap (m : Int) = m := (wrap_in (k := .i64) ⟨by omega, by omega⟩).1

theorem s_mks {t e : TypeId} {z : List Value} {yl yc : Operand} {x : X} {inf : TypeInfo} (hu : P.underlying t = some (.slice e)) (hinf : P.info? e = some inf) (hby : inf.bytes ≤ 65536) (hz : zerosOf P e = some z) (hok : z.all okZ = true)
    (hk0 : P.cellsOf e ≠ 0) (hzl : z.length = P.cellsOf e) (hx : cvX yl = some x) (hs : sameTmp yl yc = true)
    (hk : opE P ev hpR f dr gd g (.mks (z.map fun v => .e (zeroE v)) x) K) : Sound P ⟨dst, .makeSlice t yl yc, ty, pos, after, gu⟩ ev hpR f gd g K := by
  simp only [opE] at hk
  obtain ⟨hgd, hk⟩ := hk
  obtain ⟨o1, d1, hk1, h1⟩ := evG_spec hk
  split at hk1
  case h_2 => exact hk1.elim
  rename_i n
  rcases hk1 with hk1 | hk1
  · refine Sound.al hgd hk1 fun ⟨p1, p2, p3⟩ hg w G h r hi hd hr => ?_
    obtain ⟨e1, e2, e3⟩ := rv_int (h1 (fun d' e => hr yl x d' hx e) hg p1)
    have e4 : r.eval yc = r.eval yl := by
      cases yl <;> cases yc <;> simp [sameTmp] at hs
      · subst hs; rfl
      · rename_i a b
        cases a <;> cases b <;> simp at hs
        obtain ⟨rfl, rfl⟩ := hs; rfl
    obtain ⟨v, z1, z2⟩ := run_zero (w := w) hz
    have z3 : v.cells.toList = z := z2
    have z4 : v.cells.size = P.cellsOf e := by rw [← hzl, ← z3]; simp
    have z5 : v.cells.toList.all okZ = true := by rw [z3]; exact hok
    obtain ⟨m, rfl⟩ := Int.eq_ofNat_of_zero_le p2
    have hm : m ≤ 2147483648 := by omega
    simp only [Int.toNat_natCast] at *
    have hrepk : ∀ e' ∈ List.replicate m (z.map zeroE), e'.length = P.cellsOf e := fun e he => by rw [List.eq_of_mem_replicate he]; simp [hzl]
    generalize hcs : (Array.range (m * P.cellsOf e)).map ((if m * P.cellsOf e = 0 then #[] else v.cells)[· % (if m * P.cellsOf e = 0 then #[] else v.cells).size]!) = cs
    have row0 : RvA w G h cs ((List.replicate m (z.map zeroE)).flatten.map .e) := by
      refine RvA.list (by rw [flatten_len hrepk, ← hcs]; simp) ?_
      by_cases hz0 : m * P.cellsOf e = 0
      · intro j c d hc
        rw [← hcs, hz0] at hc; simp at hc
      · rw [← hcs, if_neg hz0, ← z3]
        exact zero_row z5 z4 (by omega)
    have hds : (List.replicate m (z.map zeroE)).flatten.map D.e = (List.replicate m (z.map fun v => D.e (zeroE v))).flatten := by
      simp [List.map_flatten]; rfl
    obtain ⟨i1, x1⟩ := alloc_step (T := e) (cs := cs) (pn := fun _ => False) (h' := fun i => if i = f then .box (List.replicate m (z.map fun v => D.e (zeroE v))).flatten else h i) hi (.inl hd) (fun i e => by simp [e])
      (fun ds e => by simp at e; subst e; exact ⟨fun _ p => p, by have := row0.congr hds; simpa using this⟩) (fun n k e => by simp at e)
    refine ⟨.slice (some ⟨w.heap.size, 0, none⟩) m m, _, _, exec_v (w' := w.alloc (.cells cs e)) ?_, i1, x1, ?_⟩
    · have b1 : ¬ (m : Int) < 0 := by omega
      have b3 : IntKind.i64.wrap (m : Int) = m := wrap_small hm
      have b2 : ¬ (inf.bytes : Int) * m > 2 ^ 48 := by
        have h3 : inf.bytes * m ≤ 140737488355328 := Nat.le_trans (Nat.mul_le_mul hby hm) (by decide)
        have : ((inf.bytes * m : Nat) : Int) ≤ ((140737488355328 : Nat) : Int) := Int.ofNat_le.2 h3
        have p48 : (2 : Int) ^ 48 = 281474976710656 := by decide
        rw [p48, ← Int.natCast_mul]
        omega
      rw [← hcs]
      simp only [Instr.makeSlice, Sem.run_bind, run_underlying hu, Result.andThen, e1, e4, asInt, asIntOf, Sem.run_pure, run_typeInfo w hinf, b3]
      rw [if_neg (by rw [decide_eq_false b1, decide_eq_false b2, decide_eq_false (Int.lt_irrefl _)]; decide)]
      by_cases hz0 : m * P.cellsOf e = 0
      · simp only [hz0, if_true]
        simp [run_askRoom, Result.andThen, run_size hk0, hz0, newRow]
      · rw [if_neg hz0]
        simp [run_askRoom, Result.andThen, run_size hk0, hz0, newRow, z1]
    · have hb : (fun i => if i = f then O.box (List.replicate m (z.map fun v => D.e (zeroE v))).flatten else h i) f = .box (List.replicate m (z.map fun v => D.e (zeroE v))).flatten := if_pos rfl
      refine Rv.bs hb (Nat.le_refl _) (.inr ⟨by simp [Gh.new], rfl, ?_⟩) (by simp only [maxN]; omega)
      rw [← hds, List.length_map (f := D.e), flatten_len hrepk]
      simp [hzl]

  · refine Sound.al hgd hk1 fun ⟨p1, p2, p3⟩ hg w G h r hi hd hr => ?_
    obtain ⟨e1, e2, e3⟩ := rv_int (h1 (fun d' e => hr yl x d' hx e) hg p1)
    have e4 : r.eval yc = r.eval yl := by
      cases yl <;> cases yc <;> simp [sameTmp] at hs
      · subst hs; rfl
      · rename_i a b
        cases a <;> cases b <;> simp at hs
        obtain ⟨rfl, rfl⟩ := hs; rfl
    obtain ⟨v, z1, z2⟩ := run_zero (w := w) hz
    have z3 : v.cells.toList = z := z2
    have z4 : v.cells.size = P.cellsOf e := by rw [← hzl, ← z3]; simp
    have z5 : v.cells.toList.all okZ = true := by rw [z3]; exact hok
    obtain ⟨m, rfl⟩ := Int.eq_ofNat_of_zero_le p2
    have hm : m ≤ 2147483648 := by omega
    simp only [Int.toNat_natCast] at *
    have hrepk : ∀ e' ∈ List.replicate m (z.map zeroE), e'.length = P.cellsOf e := fun e he => by rw [List.eq_of_mem_replicate he]; simp [hzl]
    generalize hcs : (Array.range (m * P.cellsOf e)).map ((if m * P.cellsOf e = 0 then #[] else v.cells)[· % (if m * P.cellsOf e = 0 then #[] else v.cells).size]!) = cs
    have row0 : RvA w G h cs ((List.replicate m (z.map zeroE)).flatten.map .e) := by
      refine RvA.list (by rw [flatten_len hrepk, ← hcs]; simp) ?_
      by_cases hz0 : m * P.cellsOf e = 0
      · intro j c d hc
        rw [← hcs, hz0] at hc; simp at hc
      · rw [← hcs, if_neg hz0, ← z3]
        exact zero_row z5 z4 (by omega)
    have hds : (List.replicate m (z.map zeroE)).flatten.map D.e = (List.replicate m (z.map fun v => D.e (zeroE v))).flatten := by
      simp [List.map_flatten]; rfl
    obtain ⟨i1, x1⟩ := alloc_step (T := e) (cs := cs) (pn := fun _ => False) (h' := fun i => if i = f then .vec true (z.map fun v => D.e (zeroE v)).length (List.replicate m (z.map fun v => D.e (zeroE v))).flatten else h i) hi (.inl hd) (fun i e => by simp [e])
      (fun ds e => by simp at e) (fun n k e => by simp at e) (fun b k' ds e => by cases (if_pos rfl).symm.trans e; exact ⟨rfl, fun _ p => p, by have := row0.size; rw [this, ← hds]; exact Nat.le_refl _, fun j c d hc hd => ⟨row0.rel j c d hc (by rw [hds]; exact hd), row0.one j c hc⟩⟩)
    refine ⟨.slice (some ⟨w.heap.size, 0, none⟩) m m, _, _, exec_v (w' := w.alloc (.cells cs e)) ?_, i1, x1, ?_⟩
    · have b1 : ¬ (m : Int) < 0 := by omega
      have b3 : IntKind.i64.wrap (m : Int) = m := wrap_small hm
      have b2 : ¬ (inf.bytes : Int) * m > 2 ^ 48 := by
        have h3 : inf.bytes * m ≤ 140737488355328 := Nat.le_trans (Nat.mul_le_mul hby hm) (by decide)
        have : ((inf.bytes * m : Nat) : Int) ≤ ((140737488355328 : Nat) : Int) := Int.ofNat_le.2 h3
        have p48 : (2 : Int) ^ 48 = 281474976710656 := by decide
        rw [p48, ← Int.natCast_mul]
        omega
      rw [← hcs]
      simp only [Instr.makeSlice, Sem.run_bind, run_underlying hu, Result.andThen, e1, e4, asInt, asIntOf, Sem.run_pure, run_typeInfo w hinf, b3]
      rw [if_neg (by rw [decide_eq_false b1, decide_eq_false b2, decide_eq_false (Int.lt_irrefl _)]; decide)]
      by_cases hz0 : m * P.cellsOf e = 0
      · simp only [hz0, if_true]
        simp [run_askRoom, Result.andThen, run_size hk0, hz0, newRow]
      · rw [if_neg hz0]
        simp [run_askRoom, Result.andThen, run_size hk0, hz0, newRow, z1]
    · have hnew : (w.alloc (.cells cs e)).heap[w.heap.size]? = some (.cells cs e (0, 0)) := by show (w.heap.push _)[w.heap.size]? = _; simp
      have hsz := row0.size
      have hfl : (List.replicate m (z.map fun v => D.e (zeroE v))).flatten.length = m * P.cellsOf e := by rw [← hds, List.length_map (f := D.e), flatten_len hrepk, List.length_replicate]
      have hzk : (z.map fun v => D.e (zeroE v)).length = P.cellsOf e := by simp [hzl]
      refine .vec (by simp) (by simp only [maxN]; omega) (Nat.le_refl _) fun b k' ds' e' => ?_
      cases (if_pos rfl).symm.trans e'
      rw [hzk]
      refine ⟨rfl, by rw [hfl]; exact Nat.le_refl _, fun hb => (by cases hb), fun _ => ⟨by simp [Gh.new], cs, e, (0, 0), by simpa [Gh.new] using hnew, by rw [hsz, hds, hfl]; exact Nat.le_refl _⟩⟩


theorem freeze_alloc (w : World) (cs : Array Value) (T : TypeId) (n m : Nat) (hm : m ≠ 0) : (w.alloc (.cells cs T)).freeze ⟨w.heap.size, n, none⟩ m = w.alloc (.cells cs T (n, n + m)) := by
  unfold World.freeze
  rw [if_neg hm]
  unfold World.alloc
  congr 1
  apply Array.ext
  · simp
  · intro i h1 h2
    simp only [Array.getElem_modify, Array.getElem_push]
    by_cases e : i < w.heap.size
    · rw [dif_pos e, if_neg (by omega), dif_pos e]
    · have : w.heap.size = i := by simp at h2; omega
      rw [dif_neg e, if_pos this, dif_neg e]
      simp

theorem u8_row {w : World} {pub : Nat → Nat → Prop} (l : List UInt8) (r : Array Value) : ∀ (j : Nat) c d, ((l.map fun b => Value.int .u8 b.toNat).toArray ++ r)[j]? = some c →
    (l.map fun b => [E.v (.int .u8 b.toNat)]).flatten[j]? = some d → RvE w pub c d := by
  intro j c d hc hd
  have hk : ∀ e ∈ l.map fun b => [E.v (.int .u8 b.toNat)], e.length = 1 := fun e he => by
    obtain ⟨b, _, rfl⟩ := List.mem_map.1 he; rfl
  have hj : j < l.length := by
    have := (List.getElem?_eq_some_iff.1 hd).1
    rw [flatten_len hk] at this; simpa using this
  have h2 := flatten_get hk j [E.v (.int .u8 (l[j]).toNat)] 0 (by simp [hj]) (by omega)
  simp only [Nat.mul_one, Nat.add_zero] at h2
  rw [h2] at hd
  simp at hd; subst hd
  rw [Array.getElem?_append_left (by simpa using hj)] at hc
  simp [hj] at hc; subst hc
  refine .v ?_
  have := (l[j]).toNat_lt
  simp only [okV, IntKind.min, IntKind.max, IntKind.signed, IntKind.bits]
  simp
  omega

theorem s_convsb {s d e : TypeId} {yx : Operand} {x : X} (hx : cvX yx = some x) (hs : P.underlying s = some .string) (hd : P.underlying d = some (.slice e)) (he : P.underlying e = some (.int .u8))
    (hk : opE P ev hpR f dr gd g (.convsb x) K) : Sound P ⟨dst, .convert s d yx, ty, pos, after, gu⟩ ev hpR f gd g K := by
  simp only [opE] at hk
  obtain ⟨hgd, hk⟩ := hk
  obtain ⟨o1, d1, hk1, h1⟩ := evG_spec hk
  split at hk1
  case h_2 => exact hk1.elim
  rename_i st
  refine Sound.al0 hgd hk1 fun p1 hg w G h r hi hr => ?_
  obtain ⟨e1, e2⟩ := rv_v (h1 (fun d' e => hr yx x d' hx e) hg p1)
  have hl := str_bound e2
  obtain ⟨i0, x0⟩ := drew_step hi
  generalize hcap : (Question.appendCap st.size 0 e).cut (w.tape w.drawn (.appendCap st.size 0 e)) = cap
  have hcap' : st.size ≤ cap := by rw [← hcap]; simp only [Question.cut]; omega
  generalize hcs : (st.data.toList.map fun b => Value.int .u8 b.toNat).toArray ++ Array.replicate (cap - st.size) (.int .u8 0) = cs
  have hsz : cs.size = cap := by rw [← hcs]; simp; have : st.data.size = st.size := rfl; omega
  obtain ⟨i1, x1⟩ := alloc_pub (T := e) (cs := cs) (fr := (cap, cap + 1)) i0
  have hk' : ∀ e ∈ st.data.toList.map fun b => [E.v (.int .u8 b.toNat)], e.length = 1 := fun e he => by
    obtain ⟨b, _, rfl⟩ := List.mem_map.1 he; rfl
  have hln : (st.data.toList.map fun b => [E.v (.int .u8 b.toNat)]).length = st.size := by simp
  refine ⟨.slice (some ⟨w.heap.size, 0, none⟩) st.size cap, w.drew.alloc (.cells cs e (cap, cap + 1)), _, exec_v ?_, i1, x0.trans x1, .e ?_⟩
  · have hsh : (w.drew.alloc (.cells cs e)).shape? w.heap.size = some (e, cap) := by
      rw [shape_size (cs := cs) (T := e) (fr := (0, 0)) (by show (w.heap.push _)[w.heap.size]? = _; simp), hsz]
    have hcs' : (st.data.map fun b => Value.int .u8 b.toNat) ++ Array.replicate (cap - st.size) (.int .u8 0) = cs := by
      rw [← hcs]; congr 1; apply Array.ext'; simp
    simp [convert, run_underlying hs, run_underlying hd, run_underlying he, Result.andThen, e1, Conv.stringToBytes, Question.forced, hcap, newRow, hcs', markStringish]
    have hw : ({ heap := w.drew.heap.push (.cells cs e), tape := w.tape, drawn := w.drawn + 1, os := w.drew.os, output := w.drew.output } : World) = w.drew.alloc (.cells cs e) := rfl
    rw [hw]
    rw [hsh]
    simp only [run_freeze]
    rw [show (w.drew.alloc (Obj.cells cs e)).freeze ⟨w.heap.size, cap, none⟩ 1 = _ from freeze_alloc w.drew cs e cap 1 (by decide)]
  · exact new_list (cs := cs) (T := e) (fr := (cap, cap + 1)) (by show (w.heap.push _)[w.heap.size]? = _; simp) (fun j _ => .inr rfl) hln hk' hcap' (by rw [← hln]; simpa using hl) (by omega) (fun j c d hc hd => by rw [← hcs] at hc; exact u8_row _ _ j c d hc hd)

end
end Go.Proofs.Ytmnhoglkahmlaaa.Ab
