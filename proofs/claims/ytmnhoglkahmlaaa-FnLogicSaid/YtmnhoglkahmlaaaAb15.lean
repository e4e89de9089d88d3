/- Functions that are handed things that are still written; states taken for less, under new numbers. -/
import Derived.Test.YtmnhoglkahmlaaaAb14
set_option linter.unusedSimpArgs false
set_option linter.unusedVariables false
set_option linter.unnecessarySimpa false
set_option linter.constructorNameAsVariable false
namespace Go.Proofs.Ytmnhoglkahmlaaa.Ab
open Go

abbrev RF := Nat → Nat

/-- What is said of a function's things holds under any numbers. -/
structure Side (args : RF → List D) (l0 : RF → List O) (d : RF → D) (l : RF → List O) : Prop where
  ra : ∀ t, args t = rens t (args id)
  la : lts (l0 id).length (args id) = true
  r0 : ∀ t, l0 t = (l0 id).map (O.ren t)
  k0 : ∀ o ∈ l0 id, o.lt (l0 id).length = true
  rd : ∀ t, d t = (d id).ren t
  rl : ∀ t, l t = (l id).map (O.ren t)
  le : (l0 id).length ≤ (l id).length

/-- A function's contract: arguments, things ahead of it, result, things behind it. -/
structure Proc (P : Program) (fn : FuncId) (args : RF → List D) (l0 : RF → List O) (d : RF → D) (l : RF → List O) : Prop where
  side : Side args l0 d l
  ok : CallOK P fn (args id) (l0 id) fun d' l' => FinV (l0 id) l' d' (l id) (d id)

theorem procOf {Q : Program} (hm : Q.follows .mixedOrders = true) {fn : FuncId} {f : F} {args : RF → List D} {l0 : RF → List O} {d : RF → D} {l : RF → List O} (hf : prepF Q fn = some f) (side : Side args l0 d l)
    (h : ∀ (A : Ar) (P : Program), A.Ok → P = Q → goF A P f (args id) (l0 id) fun d' l' => A.finv (l0 id) l' d' (l id) (d id)) : Proc Q fn args l0 d l :=
  ⟨side, callOK hm hf (h Ar.std Q Ar.std_ok rfl)⟩

def ndB : List Nat → Bool
  | [] => true
  | i :: r => !(r.contains i) && ndB r

theorem ndB_inj : ∀ {L : List Nat} {i j : Nat}, ndB L = true → i < L.length → j < L.length → L.getD i 0 = L.getD j 0 → i = j
  | [], i, _, _, h, _, _ => by simp at h
  | x :: r, i, j, h, hi, hj, e => by
    simp only [ndB, Bool.and_eq_true, Bool.not_eq_true', List.contains_eq_mem, decide_eq_false_iff_not] at h
    cases i with
    | zero =>
      cases j with
      | zero => rfl
      | succ j =>
        simp at hj e
        exact absurd (by rw [e]; simp [hj]) h.1
    | succ i =>
      cases j with
      | zero =>
        simp at hi e
        exact absurd (by rw [← e]; simp [hi]) h.1
      | succ j =>
        simp at hi hj
        rw [ndB_inj h.2 hi hj (by simpa using e)]

theorem find_zip : ∀ {L : List Nat} {M : List O} {i : Nat}, ndB L = true → i < L.length → L.length ≤ M.length → (L.zip M).find? (·.1 == L.getD i 0) = some (L.getD i 0, M.getD i .dead)
  | [], _, i, _, h, _ => by simp at h
  | x :: r, [], i, _, _, h => by simp at h
  | x :: r, m :: M, 0, _, _, _ => by simp
  | x :: r, m :: M, i + 1, h, hi, hl => by
    simp only [ndB, Bool.and_eq_true, Bool.not_eq_true', List.contains_eq_mem, decide_eq_false_iff_not] at h
    simp at hi hl
    have : (x == r.getD i 0) = false := by
      simp only [beq_eq_false_iff_ne]
      intro e
      exact h.1 (by rw [e]; simp [hi])
    simp only [List.zip_cons_cons, List.getD_cons_succ, List.find?_cons, this]
    exact find_zip h.2 hi hl

theorem find_zip_none {L : List Nat} {M : List O} {j : Nat} (h : j ∉ L) : (L.zip M).find? (·.1 == j) = none := by
  rw [List.find?_eq_none]
  intro p hp
  obtain ⟨a, b⟩ := p
  have := (List.of_mem_zip hp).1
  simp
  exact fun e => h (e ▸ this)

def hpAll (hp : Hp) : List Nat → List O → Prop
  | i :: L, o :: l => hp i = o ∧ hpAll hp L l
  | [], [] => True
  | _, _ => False

theorem hpAll_len {hp : Hp} : ∀ {L : List Nat} {l : List O}, hpAll hp L l → L.length = l.length
  | [], [], _ => rfl
  | _ :: _, _ :: _, h => by simp [hpAll_len h.2]
  | [], _ :: _, h => h.elim
  | _ :: _, [], h => h.elim

theorem hpAll_get {hp : Hp} : ∀ {L : List Nat} {l : List O} {i : Nat}, hpAll hp L l → i < L.length → hp (L.getD i 0) = l.getD i .dead
  | [], _, i, _, h => by simp at h
  | _ :: _, [], _, h, _ => h.elim
  | x :: L, o :: l, 0, h, _ => by simpa using h.1
  | x :: L, o :: l, i + 1, h, hi => by simpa using hpAll_get h.2 (by simpa using hi)

theorem hpAll_mem {hp : Hp} : ∀ {L : List Nat} {l : List O}, hpAll hp L l → ∀ i o, (i, o) ∈ L.zip l → hp i = o
  | [], _, _, i, o, h => by simp at h
  | _ :: _, [], h, _, _, _ => h.elim
  | x :: L, o :: l, h, i, o', hm => by
    simp only [List.zip_cons_cons, List.mem_cons, Prod.mk.injEq] at hm
    rcases hm with ⟨rfl, rfl⟩ | hm
    · exact h.1
    · exact hpAll_mem h.2 i o' hm

/-- The caller's numbers: those handed in, and new ones from f on. -/
def num (L : List Nat) (f : Nat) : RF := fun i => if i < L.length then L.getD i 0 else f + (i - L.length)

theorem Proc.callE {P : Program} {fn : FuncId} {args : RF → List D} {l0 : RF → List O} {d : RF → D} {l : RF → List O} (h : Proc P fn args l0 d l) {L : List Nat} {f : Nat} (hL : L.length = (l0 id).length) (hn : ndB L = true) (hf : ∀ i ∈ L, i < f) :
    CallE P fn (args (num L f)) (L.zip (l0 (num L f))) f { d := some (d (num L f)), al := (l (num L f)).drop L.length, wr := L.zip ((l (num L f)).take L.length), tc := L } := by
  intro w G hh h' vs hi hpre hal hh' hs hr
  generalize ht : num L f = t at *
  have s := h.side
  have l0l : (l0 t).length = L.length := by rw [s.r0 t, List.length_map, hL]
  have ll : (l t).length = (l id).length := by rw [s.rl t, List.length_map]
  have lle : L.length ≤ (l id).length := by rw [hL]; exact s.le
  have tin : ∀ i, i < L.length → t i = L.getD i 0 := fun i a => by rw [← ht]; exact if_pos a
  have tout : ∀ i, L.length ≤ i → t i = f + (i - L.length) := fun i a => by rw [← ht]; exact if_neg (by omega)
  have tlt : ∀ i, i < L.length → t i < f := fun i a => by
    rw [tin i a]
    exact hf _ (by simp [List.getD, a])
  have inj : ∀ i j, i < (l id).length → j < (l id).length → t i = t j → i = j := fun i j a b e => by
    rcases Nat.lt_or_ge i L.length with p | p <;> rcases Nat.lt_or_ge j L.length with q | q
    · rw [tin i p, tin j q] at e; exact ndB_inj hn p q e
    · have := tlt i p; rw [tout j q] at e; omega
    · have := tlt j q; rw [tout i p] at e; omega
    · rw [tout i p, tout j q] at e; omega
  have get0 : ∀ i, i < (l0 id).length → (l0 t).getD i .dead = (hpF (l0 id) i).ren t := fun i a => by
    rw [s.r0 t]; simp [hpF, List.getD, a]
  have getl : ∀ i, i < (l id).length → (l t).getD i .dead = (hpF (l id) i).ren t := fun i a => by
    rw [s.rl t]; simp [hpF, List.getD, a]
  have hpre' : ∀ i, i < (l0 id).length → hh (t i) = (hpF (l0 id) i).ren t := fun i a => by
    rw [← get0 i a, tin i (by omega)]
    refine hpre _ _ ?_
    rw [List.mem_iff_getElem?]
    exact ⟨i, by rw [List.getElem?_zip_eq_some]; exact ⟨by simp [List.getD, show i < L.length by omega], by simp [List.getD, show i < (l0 t).length by omega]⟩⟩
  have all : ((l t).drop L.length).length = (l id).length - L.length := by rw [List.length_drop, ll]
  have iv0 := inv_ren (l := l0 id) (t := t) hi (fun i j a b e => inj i j (by omega) (by omega) e) hpre' s.k0
  have hlt : ∀ j v x, vs[j]? = some v → (args id)[j]? = some x → Rv w ⟨G.pub, fun i => G.blk (t i)⟩ (hpF (l0 id)) v x := fun j v x hv hx =>
    Rv.unren (G2 := G) (G := ⟨G.pub, fun i => G.blk (t i)⟩) (m := (l0 id).length) rfl (fun i a => ⟨hpre' i a, rfl⟩) (hr j v (x.ren t) hv (by rw [s.ra t, rens_get, hx]; rfl)) _ rfl (lts_get s.la hx)
  refine (h.ok w ⟨G.pub, fun i => G.blk (t i)⟩ vs iv0 (by rw [hs, s.ra t, rens_len]) hlt).mono fun e w' ⟨v, d', l', G1, q1, q2, q3, q4, q5⟩ => ?_
  obtain ⟨G2, r1, r2, r3⟩ := q2 w' G1 v q4 q3
  have h1' : ∀ i, i < (l id).length → h' (t i) = (hpF (l id) i).ren t := fun i a => by
    rw [← getl i a, hh']
    simp only [all]
    rcases Nat.lt_or_ge i L.length with p | p
    · have := tlt i p
      rw [if_neg (by omega), tin i p, find_zip hn p (by rw [List.length_take, ll]; omega)]
      simp [List.getD, List.getElem?_take, p]
    · rw [tout i p, if_pos (by omega)]
      simp only [List.getD, List.getElem?_drop]
      congr 2
      omega
  have h2' : ∀ j, (∀ i, i < (l id).length → t i ≠ j) → h' j = hh j := fun j hj => by
    rw [hh']
    simp only [all]
    rw [if_neg (fun ⟨a, b⟩ => hj (L.length + (j - f)) (by omega) (by rw [tout _ (by omega)]; omega))]
    rw [find_zip_none (fun hm => by
      obtain ⟨i, a, b⟩ := List.getElem_of_mem hm
      exact hj i (by omega) (by rw [tin i a]; simp [List.getD, a, b]))]
  obtain ⟨i1, x1⟩ := frame_call (l0 := l0 id) (l := l id) (t := t) hi inj s.le hpre' (fun i a b => by
    rw [tout i (by omega)]
    exact hal _ (by simp only [all]; omega)) h1' h2' r2 (r3 _ _ q5)
  refine ⟨v, d t, _, q1, rfl, ?_, i1, x1⟩
  rw [s.rd t]
  refine Rv.ren (G := G2) (h := hpF (l id)) (G2 := ⟨G2.pub, blkOf (l id).length t G.blk G2.blk⟩) (h2 := h') rfl (fun i hd => ?_) r1
  have hil : i < (l id).length := by
    rcases Nat.lt_or_ge i (l id).length with q | q
    · exact q
    · exact absurd (hpF_ge q) hd
  exact ⟨h1' i hil, blkOf_in inj hil⟩

theorem callK_pr {A : Ar} (hA : A.Ok) {P Q : Program} (e : P = Q) {hp : Hp} {f : Nat} {g : Bool} {fn : FuncId} {ds : List D} {o : Prop} {K : Prop → Eff → Prop} {args : RF → List D} {l0 : RF → List O} {d : RF → D} {l : RF → List O} (L : List Nat)
    (hn : (ndB L && L.all (· < f)) = true) (hpre : hpAll hp L (l0 (num L f))) (hw : Wks ds (args (num L f)))
    (hk : K o { d := some (d (num L f)), al := (l (num L f)).drop L.length, wr := L.zip ((l (num L f)).take L.length), tc := L })
    (h : g = true → o → Proc Q fn args l0 d l) (hs : Side args l0 d l) : A.call P hp f false g fn ds o K := by
  have hL : L.length = (l0 id).length := by rw [hpAll_len hpre, hs.r0, List.length_map]
  simp only [Bool.and_eq_true, List.all_eq_true, decide_eq_true_eq] at hn
  refine hA.call _ _ _ _ _ _ _ _ _ ⟨args (num L f), L.zip (l0 (num L f)), _, hw, fun hg ho => e ▸ (h hg ho).callE hL hn.1 hn.2, hpAll_mem hpre, fun h => (by cases h), fun x hx => ?_, ?_, d (num L f), rfl, by simpa using hk⟩
  · have := (List.of_mem_zip (show (x.1, x.2) ∈ _ from hx)).1
    rw [List.map_fst_zip]
    · exact this
    · rw [← hpAll_len hpre]; exact Nat.le_refl _
  · rw [List.map_fst_zip]
    rw [← hpAll_len hpre]; exact Nat.le_refl _

/-- A call that the guard does not let run. -/
theorem callK_no {A : Ar} (hA : A.Ok) {P : Program} {hp : Hp} {f : Nat} {gd : Bool} {fn : FuncId} {ds : List D} {o : Prop} {K : Prop → Eff → Prop} (d : D) (hk : K o { d := some (if gd then .when false d else d) }) : A.call P hp f gd false fn ds o K :=
  hA.call _ _ _ _ _ _ _ _ _ ⟨ds, [], { d := some d }, Wks.refl _, (fun h => by cases h), fun _ _ h => (List.not_mem_nil h).elim, fun _ => ⟨rfl, rfl⟩, fun _ h => (List.not_mem_nil h).elim, rfl, d, rfl, hk⟩

/-! ### States under new numbers -/
def subW : List (Nat × D) → List (Nat × D) → Prop
  | [], _ => True
  | (t, d) :: r, env => (look t env = some d ∨ (look t env).map D.pl = some d) ∧ subW r env

theorem look_subW {w : World} {G : Gh} {h : Hp} : ∀ {env' env : List (Nat × D)} {t : Nat} {d : D}, subW env' env → look t env' = some d → ∃ d0, look t env = some d0 ∧ ∀ v, Rv w G h v d0 → Rv w G h v d
  | [], _, _, _, _, h => by simp [look] at h
  | (k, x) :: r, env, t, d, ⟨h1, h2⟩, h => by
    simp only [look] at h
    split at h
    · rename_i e; subst e; cases h
      rcases h1 with h1 | h1
      · exact ⟨x, h1, fun _ r => r⟩
      · obtain ⟨d0, q1, q2⟩ := Option.map_eq_some_iff.1 h1
        exact ⟨d0, q1, fun _ r => q2 ▸ r.pl⟩
    · exact look_subW h2 h

def renEnv (t : RF) : List (Nat × D) → List (Nat × D)
  | [] => []
  | (k, d) :: r => (k, d.ren t) :: renEnv t r

def ltEnv (m : Nat) : List (Nat × D) → Bool
  | [] => true
  | (_, d) :: r => d.lt m && ltEnv m r

theorem look_ren {t : RF} : ∀ {env : List (Nat × D)} {k : Nat} {d : D}, look k env = some d → look k (renEnv t env) = some (d.ren t)
  | [], _, _, h => by simp [look] at h
  | (j, x) :: r, k, d, h => by
    simp only [look] at h
    simp only [renEnv, look]
    split at h
    · rename_i e; rw [if_pos e]; cases h; rfl
    · rename_i e; rw [if_neg e]; exact look_ren h

theorem look_lt {m : Nat} : ∀ {env : List (Nat × D)} {k : Nat} {d : D}, ltEnv m env = true → look k env = some d → d.lt m = true
  | [], _, _, _, h => by simp [look] at h
  | (j, x) :: r, k, d, hl, h => by
    simp only [ltEnv, Bool.and_eq_true] at hl
    simp only [look] at h
    split at h
    · cases h; exact hl.1
    · exact look_lt hl.2 h

/-- A state's things hold under any numbers. -/
structure SideW (env : RF → List (Nat × D)) (hp : RF → List O) : Prop where
  re : ∀ t, env t = renEnv t (env id)
  le : ltEnv (hp id).length (env id) = true
  rh : ∀ t, hp t = (hp id).map (O.ren t)
  kh : ∀ o ∈ hp id, o.lt (hp id).length = true

def pick (S : List Nat) : RF := fun i => S.getD i 0

/-- The first numbers, in order. -/
def firstB : Nat → List Nat → Nat → Bool
  | 0, _, _ => true
  | n + 1, x :: S, i => x == i && firstB n S (i + 1)
  | _ + 1, [], _ => false

theorem firstB_get : ∀ {n : Nat} {S : List Nat} {j i : Nat}, firstB n S j = true → i < n → S.getD i 0 = j + i ∧ i < S.length
  | 0, _, _, _, _, h => by omega
  | n + 1, [], _, _, h, _ => by simp [firstB] at h
  | n + 1, x :: S, j, 0, h, _ => by simp [firstB] at h; simp [h.1]
  | n + 1, x :: S, j, i + 1, h, hi => by
    simp [firstB] at h
    obtain ⟨a, b⟩ := firstB_get h.2 (show i < n by omega)
    simp at a ⊢
    exact ⟨by omega, by simpa using b⟩

/-- Some of the things, under new numbers (the old numbers: 'S'), and some of the slots. -/
theorem Weak.ren {l0 : List O} {env : List (Nat × D)} {hp : List O} (S : List Nat) (env' : RF → List (Nat × D)) (hp' : RF → List O) (hS : (ndB S && firstB l0.length S 0) = true)
    (hsub : subW (env' (pick S)) env) (hpre : hpAll (hpF hp) S (hp' (pick S))) (side : SideW env' hp') : Weak (hpF l0) ⟨env, hp⟩ ⟨env' id, hp' id⟩ := by
  intro w G hi
  simp only [Bool.and_eq_true] at hS
  have hlen : S.length = (hp' id).length := by rw [hpAll_len hpre, side.rh, List.length_map]
  have H : ∀ i, i < (hp' id).length → hpF hp (pick S i) = (hpF (hp' id) i).ren (pick S) := fun i a => by
    have := hpAll_get hpre (show i < S.length by omega)
    rw [side.rh] at this
    simpa [hpF, List.getD, a, pick] using this
  have inj : ∀ i j, i < (hp' id).length → j < (hp' id).length → pick S i = pick S j → i = j := fun i j a b e => ndB_inj hS.1 (by omega) (by omega) e
  refine ⟨⟨G.pub, fun i => G.blk (pick S i)⟩, inv_ren hi inj H side.kh, fun w0 G0 e => ext_ren H (fun i hd => ?_) e, fun t d' hl => ?_⟩
  · have hil : i < l0.length := by
      rcases Nat.lt_or_ge i l0.length with q | q
      · exact q
      · exact absurd (hpF_ge q) hd
    obtain ⟨a, b⟩ := firstB_get hS.2 hil
    exact ⟨by simpa [pick] using a, by rw [← hlen]; exact b⟩
  · have h2 := look_ren (t := pick S) hl
    rw [← side.re] at h2
    obtain ⟨d0, q1, q2⟩ := look_subW (w := w) (G := G) (h := hpF hp) hsub h2
    refine ⟨d0, q1, fun x r => ?_⟩
    exact Rv.unren (G2 := G) (G := ⟨G.pub, fun i => G.blk (pick S i)⟩) (m := (hp' id).length) rfl (fun i a => ⟨H i a, rfl⟩) (q2 x r) _ rfl (look_lt side.le hl)

theorem hpF_snoc (hp : List O) (ob : O) : hpF (hp ++ [ob]) = fun j => if j = hp.length then ob else hpF hp j := by
  funext j
  by_cases e : j = hp.length
  · subst e; simp [hpF, List.getD]
  · rw [if_neg e]
    rcases Nat.lt_or_ge j hp.length with q | q
    · simp [hpF, List.getD, List.getElem?_append_left q]
    · rw [hpF_ge q, hpF_ge (by simp; omega)]

/-- An empty slice is taken for one that is written in place. -/
theorem Weak.zvec {h0 : Hp} {env : List (Nat × D)} {hp : List O} (t k : Nat) (hz : look t env = some .zs) : Weak h0 ⟨env, hp⟩ ⟨(t, .vec hp.length 0 k) :: env, hp ++ [.vec false k []]⟩ := by
  intro w G hi
  obtain ⟨i1, x1⟩ := inv_none (i := hp.length) (ob := .vec false k []) hi (.inr ⟨k, rfl⟩) (.inl (hpF_ge (Nat.le_refl _)))
  rw [← hpF_snoc] at i1 x1
  refine ⟨G, i1, fun w0 G0 e => e.trans x1, fun t' d' hl => ?_⟩
  simp only [look] at hl
  split at hl
  · rename_i e
    subst e
    cases hl
    refine ⟨_, hz, fun x r => ?_⟩
    cases r with
    | zs ha =>
      refine .vec (by simp [hpF, List.getD]) (Nat.zero_le _) (Nat.le_refl _) fun b k' ds e => ?_
      simp [hpF, List.getD] at e
      obtain ⟨rfl, rfl, rfl⟩ := e
      exact ⟨rfl, by simp, fun _ => ⟨rfl, rfl, ha⟩, fun hb => (by cases hb)⟩
  · exact ⟨d', hl, fun x r => r.ext x1⟩

/-- An empty slice is taken for one that is appended to. -/
theorem Weak.zown {h0 : Hp} {env : List (Nat × D)} {hp : List O} (t k : Nat) (hz : look t env = some .zs) : Weak h0 ⟨env, hp⟩ ⟨(t, .own hp.length []) :: env, hp ++ [.front 0 k]⟩ := by
  intro w G hi
  obtain ⟨i1, x1⟩ := inv_front0 (i := hp.length) (k := k) hi (.inl (hpF_ge (Nat.le_refl _)))
  rw [← hpF_snoc] at i1 x1
  refine ⟨G, i1, fun w0 G0 e => e.trans x1, fun t' d' hl => ?_⟩
  simp only [look] at hl
  split at hl
  · rename_i e
    subst e
    cases hl
    refine ⟨_, hz, fun x r => ?_⟩
    cases r with
    | zs ha => exact .own (k := k) (empty_sl ha fun _ => rfl) (by simp) ⟨0, by simp [hpF, List.getD], Nat.le_refl _, fun _ => .inl ⟨rfl, _, rfl, ha⟩⟩
  · exact ⟨d', hl, fun x r => r.ext x1⟩

/-- What is handed back, under new numbers. -/
theorem FinV.ren {l0 l' : List O} {d' : D} (S : List Nat) (l : RF → List O) (d : RF → D) (hS : (ndB S && firstB l0.length S 0) = true) (hd : d (pick S) = d' ∨ d (pick S) = d'.pl) (hpre : hpAll (hpF l') S (l (pick S)))
    (rd : ∀ t, d t = (d id).ren t) (ld : (d id).lt (l id).length = true) (rl : ∀ t, l t = (l id).map (O.ren t)) (kl : ∀ o ∈ l id, o.lt (l id).length = true) : FinV l0 l' d' (l id) (d id) := by
  intro w G v hi hr
  simp only [Bool.and_eq_true] at hS
  have hlen : S.length = (l id).length := by rw [hpAll_len hpre, rl, List.length_map]
  have H : ∀ i, i < (l id).length → hpF l' (pick S i) = (hpF (l id) i).ren (pick S) := fun i a => by
    have := hpAll_get hpre (show i < S.length by omega)
    rw [rl] at this
    simpa [hpF, List.getD, a, pick] using this
  have inj : ∀ i j, i < (l id).length → j < (l id).length → pick S i = pick S j → i = j := fun i j a b e => ndB_inj hS.1 (by omega) (by omega) e
  have hr2 : Rv w G (hpF l') v ((d id).ren (pick S)) := by
    rw [← rd]
    rcases hd with e | e
    · rw [e]; exact hr
    · rw [e]; exact hr.pl
  refine ⟨⟨G.pub, fun i => G.blk (pick S i)⟩, Rv.unren (G2 := G) (G := ⟨G.pub, fun i => G.blk (pick S i)⟩) (m := (l id).length) rfl (fun i a => ⟨H i a, rfl⟩) hr2 _ rfl ld, inv_ren hi inj H kl, fun w0 G0 e => ext_ren H (fun i hd => ?_) e⟩
  have hil : i < l0.length := by
    rcases Nat.lt_or_ge i l0.length with q | q
    · exact q
    · exact absurd (hpF_ge q) hd
  obtain ⟨a, b⟩ := firstB_get hS.2 hil
  exact ⟨by simpa [pick] using a, by omega⟩
end Go.Proofs.Ytmnhoglkahmlaaa.Ab
