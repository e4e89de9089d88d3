/- Regions whose steps come in no fixed order: every order gives the text's. -/
import Derived.Test.YtmnhoglkahmlaaaAb8
set_option linter.unusedSimpArgs false
set_option linter.unusedVariables false
set_option linter.unnecessarySimpa false
set_option linter.constructorNameAsVariable false
namespace Go.Proofs.Ytmnhoglkahmlaaa.Ab
open Go

theorem lastS_none {α : Type} {S : Nat → Bool} (ws : List (Option α)) (k : Nat) (x : α) (h : ∀ j, j < ws.length → S (k + j) = true → ws[j]? = some none) : lastS S k ws x = x := by
  rw [lastS_agree (S' := fun _ => false) ws k x fun j hj hne => h j hj (by simpa using hne)]
  clear h
  induction ws generalizing k with
  | nil => rfl
  | cons w r ih => simp only [lastS]; exact ih _

theorem lastS_take {α : Type} : ∀ (ws : List (Option α)) (k j : Nat) (x : α), lastS (fun _ => true) k (ws.take j) x = lastS (fun i => decide (i < k + j)) k ws x
  | [], k, j, x => by simp [lastS]
  | w :: r, k, 0, x => by
    rw [lastS_none (S := fun i => decide (i < k + 0)) (w :: r) k x fun j _ h => absurd (of_decide_eq_true h) (by omega)]
    rfl
  | w :: r, k, j + 1, x => by
    simp only [List.take_succ_cons, lastS, if_true]
    rw [if_pos (by simp), lastS_take r (k + 1) j]
    congr 1
    funext i
    simp only [decide_eq_decide]
    omega

section
variable {P : Program} {nt : Nat} {ops : Array Oper} {A : List (List Nat)} {s : St} {recs : List Rec}

/-- What is known of all the steps. -/
structure Facts (P : Program) (nt : Nat) (ops : Array Oper) (A : List (List Nat)) (s : St) (recs : List Rec) : Prop where
  len : recs.length = ops.size
  ok : okR s recs
  step : ∀ (j : Nat) o r, ops[j]? = some o → recs[j]? = some r → StepD P nt ops o r (runR s (recs.take j)) ∧ r.dst = o.dst ∧ dstOk nt o.dst = true ∧ (∀ x ∈ r.eff.wr, x.1 ∈ r.eff.tc) ∧ ∀ e ∈ directs o, e < j
  un : ∀ (j k : Nat) o r x y, ops[j]? = some o → recs[j]? = some r → ops[k]? = some x → recs[k]? = some y → k ∈ unOf A j → x.apart ops o = true ∧ apartR y r = true
  anc : ∀ (j : Nat) ks, A[j]? = some ks → ∀ k ∈ ks, ∀ S, Closed ops S → (∀ o, ops[j]? = some o → ∀ e ∈ directs o, S e = true) → S k = true

theorem Facts.get (F : Facts P nt ops A s recs) {j : Nat} (h : j < recs.length) : ∃ o r, ops[j]? = some o ∧ recs[j]? = some r :=
  ⟨_, _, Array.getElem?_eq_getElem (by rw [← F.len]; exact h), List.getElem?_eq_getElem h⟩

def hS (s : St) (recs : List Rec) (S : Nat → Bool) : Hp := fun i => lastS S 0 (recs.map (·.tv i)) (hpF s.hp i)
def eS (s : St) (recs : List Rec) (S : Nat → Bool) (t : Nat) : Option D := lastS S 0 (recs.map (·.en t)) (look t s.env)

theorem un_of (F : Facts P nt ops A s recs) {S : Nat → Bool} {j k : Nat} (hc : Closed ops S) (hp : ∀ o, ops[j]? = some o → ∀ e ∈ directs o, S e = true) (hk : k < j) (hn : S k = false) : k ∈ unOf A j := by
  simp only [unOf, List.mem_filter, List.mem_range, Bool.not_eq_true', hk, true_and]
  cases hA : A[j]? with
  | none => simp [List.getD, hA]
  | some ks =>
    simp only [List.getD, hA, Option.getD_some]
    cases hks : ks.contains k with
    | false => rfl
    | true =>
      have := F.anc j ks hA k (by simpa using hks) S hc hp
      rw [this] at hn; cases hn

theorem en_none {r : Rec} {t : Nat} (h : r.dst ≠ some t) : r.en t = none := by simp [Rec.en, h]

theorem apartR_spec {k r : Rec} (h : apartR k r = true) : (∀ i ∈ r.eff.tc, (∀ x ∈ k.eff.wr, x.1 ≠ i) ∧ ¬ (k.f ≤ i ∧ i < k.f + k.eff.al.length)) ∧ ∀ x ∈ r.eff.wr, x.1 ∉ k.eff.tc := by
  simp only [apartR, Bool.and_eq_true, List.all_eq_true, Bool.not_eq_true', List.any_eq_false, Bool.and_eq_false_iff, decide_eq_false_iff_not, beq_iff_eq] at h
  refine ⟨fun i hi => ⟨fun x hx => (h.1 i hi).1 x hx, fun ⟨a, b⟩ => ?_⟩, fun x hx => by simpa using h.2 x hx⟩
  rcases (h.1 i hi).2 with q | q
  · exact q a
  · exact q b

/-- What a step of the run sees, and leaves. -/
theorem one_step (F : Facts P nt ops A s recs) {S S' : Nat → Bool} {j : Nat} {o : Oper} {r : Rec} (hc : Closed ops S) (ho : ops[j]? = some o) (hr : recs[j]? = some r)
    (hp : ∀ e ∈ directs o, S e = true) (hj : S j = false) (hS' : ∀ k, S' k = (S k || decide (k = j))) :
    (∀ i ∈ r.eff.tc, hS s recs S i = hpF (runR s (recs.take j)).hp i) ∧ (∀ m, m < r.eff.al.length → hS s recs S (r.f + m) = .dead) ∧
    (∀ t ∈ o.looksAt ops, eS s recs S t = look t (runR s (recs.take j)).env) ∧ hS s recs S' = happ (hS s recs S) r.f r.eff ∧
    (∀ t, eS s recs S' t = if r.dst = some t then some (r.eff.d.getD .any) else eS s recs S t) := by
  have hp' : ∀ o', ops[j]? = some o' → ∀ e ∈ directs o', S e = true := fun o' h' => by rw [ho] at h'; cases h'; exact hp
  obtain ⟨f1, f2, f3, f4, f5⟩ := okR_get recs s j r F.ok hr
  obtain ⟨_, g2, g3, g4, g5⟩ := F.step j o r ho hr
  -- the later ones that came before
  have late : ∀ k y, j < k → S k = true → recs[k]? = some y → ∃ x, ops[k]? = some x ∧ y.dst = x.dst ∧ o.apart ops x = true ∧ apartR r y = true ∧ r.f + r.eff.al.length ≤ y.f ∧ ∀ x ∈ y.eff.wr, x.1 ∈ y.eff.tc := by
    intro k y hjk hSk hy
    have hk : k < recs.length := by
      rcases Nat.lt_or_ge k recs.length with h | h
      · exact h
      · rw [List.getElem?_eq_none h] at hy; cases hy
    obtain ⟨x, y', hx, hy'⟩ := F.get hk
    rw [hy] at hy'; cases hy'
    obtain ⟨_, q2, _, q4, _⟩ := F.step k x y hx hy
    have hu := un_of F (j := k) (k := j) hc (fun o' h' => by rw [hx] at h'; cases h'; exact hc k x hx hSk) hjk hj
    obtain ⟨u1, u2⟩ := F.un k j x y o r hx hy ho hr hu
    exact ⟨x, hx, q2, u1, u2, f4 k y hjk hy, q4⟩
  have early : ∀ k y, k < j → S k = false → recs[k]? = some y → ∃ x, ops[k]? = some x ∧ y.dst = x.dst ∧ x.apart ops o = true ∧ apartR y r = true := by
    intro k y hjk hSk hy
    have hk : k < recs.length := by
      rcases Nat.lt_or_ge k recs.length with h | h
      · exact h
      · rw [List.getElem?_eq_none h] at hy; cases hy
    obtain ⟨x, y', hx, hy'⟩ := F.get hk
    rw [hy] at hy'; cases hy'
    obtain ⟨_, q2, _, q4, _⟩ := F.step k x y hx hy
    have hu := un_of F (j := j) (k := k) hc hp' hjk hSk
    obtain ⟨u1, u2⟩ := F.un j k o r x y ho hr hx hy hu
    exact ⟨x, hx, q2, u1, u2⟩
  have get : ∀ {k : Nat}, k < recs.length → ∃ y, recs[k]? = some y := fun h => ⟨_, List.getElem?_eq_getElem h⟩
  have tvn : ∀ {y : Rec} {i : Nat}, ¬ (y.f ≤ i ∧ i < y.f + y.eff.al.length) → (∀ x ∈ y.eff.wr, x.1 ≠ i) → y.tv i = none := fun {y i} h1 h2 => by
    cases h : y.tv i with
    | none => rfl
    | some v =>
      rcases Rec.tv_some h with q | ⟨x, hx, q⟩
      · exact absurd q h1
      · exact absurd q (h2 x hx)
  refine ⟨fun i hi => ?_, fun m hm => ?_, fun t ht => ?_, ?_, fun t => ?_⟩
  · rw [← runR_heap (recs.take j) s 0 i (by
      have : ∀ (rs : List Rec) (s : St) j, okR s rs → okR s (rs.take j) := by
        intro rs
        induction rs with
        | nil => intro s j _; simp [okR]
        | cons r rs ih =>
          intro s j h
          cases j with
          | zero => simp [okR]
          | succ j => exact ⟨h.1, h.2.1, h.2.2.1, ih _ j h.2.2.2⟩
      exact this recs s j F.ok), List.map_take, lastS_take]
    refine lastS_agree _ 0 _ fun k hk hne => ?_
    simp only [Nat.zero_add] at hne ⊢
    rw [List.length_map] at hk
    obtain ⟨y, hy⟩ := get hk
    simp only [List.getElem?_map, hy, Option.map_some, Option.some.injEq]
    by_cases hkj : k < j
    · have hSk : S k = false := by
        rw [decide_eq_true hkj] at hne
        simpa using hne
      obtain ⟨x, _, _, _, a4⟩ := early k y hkj hSk hy
      obtain ⟨b1, b2⟩ := (apartR_spec a4).1 i hi
      exact tvn b2 b1
    · have hSk : S k = true := by
        rw [decide_eq_false hkj] at hne
        simpa using hne
      have hne : k ≠ j := fun e => by subst e; rw [hSk] at hj; cases hj
      obtain ⟨x, _, _, _, a4, a5, a6⟩ := late k y (by omega) hSk hy
      have hif := f3 i hi
      exact tvn (by omega) fun x hx e => (apartR_spec a4).2 x hx (by rw [e]; exact hi)
  · have h0 : hpF s.hp (r.f + m) = .dead := hpF_ge (by omega)
    show lastS S 0 _ _ = _
    rw [lastS_none _ _ _ fun k hk hSk => ?_, h0]
    simp only [Nat.zero_add] at hSk
    rw [List.length_map] at hk
    obtain ⟨y, hy⟩ := get hk
    simp only [List.getElem?_map, hy, Option.map_some, Option.some.injEq]
    by_cases hkj : k < j
    · obtain ⟨_, c2, _, c4, _⟩ := okR_get recs s k y F.ok hy
      have := c4 j r hkj hr
      exact tvn (by omega) fun x hx e => by have := okWr_lt c2 x hx; omega
    · have hne : k ≠ j := fun e => by subst e; rw [hSk] at hj; cases hj
      obtain ⟨x, _, _, _, a4, a5, a6⟩ := late k y (by omega) hSk hy
      exact tvn (by omega) fun x hx e => by
        have := ((apartR_spec a4).1 x.1 (a6 x hx)).2
        omega
  · rw [← runR_env (recs.take j) s 0 t, List.map_take, lastS_take]
    refine lastS_agree _ 0 _ fun k hk hne => ?_
    simp only [Nat.zero_add] at hne ⊢
    rw [List.length_map] at hk
    obtain ⟨y, hy⟩ := get hk
    simp only [List.getElem?_map, hy, Option.map_some, Option.some.injEq]
    by_cases hkj : k < j
    · have hSk : S k = false := by
        rw [decide_eq_true hkj] at hne
        simpa using hne
      obtain ⟨x, _, a2, a3, _⟩ := early k y hkj hSk hy
      exact en_none fun e => (Oper.apart_spec a3).1 t (by rw [← a2]; exact e) ht
    · have hSk : S k = true := by
        rw [decide_eq_false hkj] at hne
        simpa using hne
      have hne : k ≠ j := fun e => by subst e; rw [hSk] at hj; cases hj
      obtain ⟨x, _, a2, a3, _⟩ := late k y (by omega) hSk hy
      exact en_none fun e => (Oper.apart_spec a3).2.2 t (by rw [← a2]; exact e) ht
  · rw [Rec.happ_eq]
    funext i
    show lastS S' 0 _ _ = (r.tv i).getD (lastS S 0 _ _)
    cases htv : r.tv i with
    | none =>
      simp only [Option.getD_none]
      refine lastS_agree _ 0 _ fun k hk hne => ?_
      simp only [Nat.zero_add] at hne ⊢
      rw [hS'] at hne
      have : k = j := by
        cases hq : decide (k = j) with
        | true => simpa using hq
        | false => rw [hq] at hne; simp at hne
      subst this
      simp [hr, htv]
    | some v =>
      simp only [Option.getD_some]
      refine lastS_put _ 0 j _ (by simp [hr, htv]) (by rw [hS']; simp) fun k h1 h2 h3 => ?_
      simp only [Nat.zero_add] at h3
      rw [List.length_map] at h2
      rw [hS'] at h3
      have hSk : S k = true := by
        have hq : decide (k = j) = false := by simp; omega
        rw [hq] at h3; simpa using h3
      obtain ⟨y, hy⟩ := get h2
      obtain ⟨x, _, a2, a3, a4, a5, a6⟩ := late k y h1 hSk hy
      simp only [List.getElem?_map, hy, Option.map_some, Option.some.injEq]
      rcases Rec.tv_some htv with q | ⟨z, hz, q⟩
      · exact tvn (by omega) fun x hx e => by
          have := ((apartR_spec a4).1 x.1 (a6 x hx)).2
          omega
      · have := okWr_lt f2 z hz
        exact tvn (by omega) fun x hx e => by
          have := ((apartR_spec a4).1 x.1 (a6 x hx)).1 z hz
          omega
  · show lastS S' 0 _ _ = _
    by_cases e : r.dst = some t
    · rw [if_pos e]
      refine lastS_put _ 0 j _ (by simp [hr, Rec.en, e]) (by rw [hS']; simp) fun k h1 h2 h3 => ?_
      simp only [Nat.zero_add] at h3
      rw [List.length_map] at h2
      rw [hS'] at h3
      have hSk : S k = true := by
        have hq : decide (k = j) = false := by simp; omega
        rw [hq] at h3; simpa using h3
      obtain ⟨y, hy⟩ := get h2
      obtain ⟨x, _, a2, a3, _⟩ := late k y h1 hSk hy
      simp only [List.getElem?_map, hy, Option.map_some, Option.some.injEq]
      exact en_none fun e' => (Oper.apart_spec a3).2.1 t (by rw [← g2]; exact e) (by rw [← a2]; exact e')
    · rw [if_neg e]
      refine lastS_agree _ 0 _ fun k hk hne => ?_
      simp only [Nat.zero_add] at hne ⊢
      rw [hS'] at hne
      have : k = j := by
        cases hq : decide (k = j) with
        | true => simpa using hq
        | false => rw [hq] at hne; simp at hne
      subst this
      simp [hr, en_none e]

/-- The state when the steps of 'S' are done. -/
structure SRD (c : Ctx) (s : St) (recs : List Rec) (S : Nat → Bool) (a : Act) (w : World) (G : Gh) : Prop where
  defers : a.defers = []
  size : a.tmps.size = c.nt
  inv : Inv w G (hS s recs S)
  ext : Ext c.w c.G c.h w G (hS s recs S)
  rel : ∀ t d, eS s recs S t = some d → Rv w G (hS s recs S) (a.tmps.getD t undef) d

theorem any_sound {c : Ctx} {Q : Exit → Act → World → Prop} (F : Facts P c.nt ops A s recs) (hq : ∀ a w G, SR c (runR s recs) a w G → Q .normal a w) :
    ∀ (fuel : Nat) (listed : Array Bool) (a : Act) (w : World) (G : Gh), listed.size = ops.size → listed.toList.count false ≤ fuel → Closed ops (fun k => listed.getD k false) →
      SRD c s recs (fun k => listed.getD k false) a w G → wpAny P .any ops Q fuel listed a w := by
  -- nothing is ready: all is done
  have fin : ∀ (listed : Array Bool) (a : Act) (w : World) (G : Gh), listed.size = ops.size → Region.ready .any ops listed = [] → SRD c s recs (fun k => listed.getD k false) a w G → Q .normal a w := by
    intro listed a w G hsz hr x
    have all : ∀ k, k < ops.size → listed.getD k false = true := by
      intro k
      induction k using Nat.strongRecOn with
      | _ k ih =>
        intro hk
        cases hl : listed.getD k false with
        | true => rfl
        | false =>
          exfalso
          have hin : k ∈ Region.ready .any ops listed := by
            simp only [Region.ready, List.mem_filter, List.mem_range, hk, true_and, Bool.and_eq_true, Bool.not_eq_true']
            obtain ⟨o, r, ho, hr'⟩ := F.get (by rw [F.len]; exact hk)
            refine ⟨?_, ?_⟩
            · have : k < listed.size := by omega
              simp only [Array.getD, this, dif_pos] at hl ⊢
              exact hl
            · simp only [ho, Option.map_some, Option.getD_some]
              rw [← Array.all_toList, List.all_eq_true]
              intro e he
              cases hb : Region.binds .any e with
              | false => rfl
              | true =>
                have hd : e.on ∈ directs o := by
                  simp only [directs, List.mem_map, List.mem_filter]
                  exact ⟨e, ⟨he, hb⟩, rfl⟩
                have hlt := (F.step k o r ho hr').2.2.2.2 e.on hd
                simp only [Bool.not_true, Bool.false_or]
                exact ih e.on hlt (by omega)
          rw [hr] at hin; cases hin
    have e1 : hS s recs (fun k => listed.getD k false) = hpF (runR s recs).hp := by
      funext i
      rw [← runR_heap recs s 0 i F.ok]
      refine lastS_agree _ 0 _ fun k hk hne => ?_
      rw [List.length_map, F.len] at hk
      simp only [Nat.zero_add] at hne
      exact absurd (all k hk) hne
    have e2 : ∀ t, eS s recs (fun k => listed.getD k false) t = look t (runR s recs).env := by
      intro t
      rw [← runR_env recs s 0 t]
      refine lastS_agree _ 0 _ fun k hk hne => ?_
      rw [List.length_map, F.len] at hk
      simp only [Nat.zero_add] at hne
      exact absurd (all k hk) hne
    exact hq a w G ⟨x.defers, x.size, e1 ▸ x.inv, e1 ▸ x.ext, fun t d h => e1 ▸ x.rel t d (by rw [e2]; exact h)⟩
  intro fuel
  induction fuel with
  | zero =>
    intro listed a w G hsz hcnt hc x
    have hr : Region.ready .any ops listed = [] := by
      rw [List.eq_nil_iff_forall_not_mem]
      intro k hk
      simp only [Region.ready, List.mem_filter, List.mem_range, Bool.and_eq_true, Bool.not_eq_true'] at hk
      obtain ⟨h1, h2, _⟩ := hk
      have hlt : k < listed.size := by omega
      simp only [Array.getD, hlt, dif_pos] at h2
      have : false ∈ listed.toList := by
        rw [Array.mem_toList_iff]
        exact Array.mem_of_getElem h2
      have := List.count_pos_iff.2 this
      omega
    exact ⟨hr, fin listed a w G hsz hr x⟩
  | succ fuel ih =>
    intro listed a w G hsz hcnt hc x
    refine ⟨fun hr => fin listed a w G hsz hr x, fun j hj => ?_⟩
    simp only [Region.ready, List.mem_filter, List.mem_range, Bool.and_eq_true, Bool.not_eq_true'] at hj
    obtain ⟨h1, h2, h3⟩ := hj
    obtain ⟨o, r, ho, hr⟩ := F.get (by rw [F.len]; exact h1)
    have hlt : j < listed.size := by omega
    have hSj : listed.getD j false = false := by
      simp only [Array.getD, hlt, dif_pos] at h2 ⊢
      exact h2
    have hdir : ∀ e ∈ directs o, listed.getD e false = true := by
      intro e he
      simp only [directs, List.mem_map, List.mem_filter] at he
      obtain ⟨x, ⟨hx, hb⟩, rfl⟩ := he
      simp only [ho, Option.map_some, Option.getD_some] at h3
      rw [← Array.all_toList, List.all_eq_true] at h3
      have := h3 x hx
      rw [hb] at this
      simpa using this
    have hget : ∀ k, (listed.setIfInBounds j true).getD k false = (listed.getD k false || decide (k = j)) := by
      intro k
      by_cases e : k = j
      · subst e; simp [Array.getD, hlt]
      · have e' : j ≠ k := fun q => e q.symm
        simp only [Array.getD_eq_getD_getElem?, Array.getElem?_setIfInBounds_ne e', decide_eq_false e, Bool.or_false]
    obtain ⟨p1, p2, p3, p4, p5⟩ := one_step F (S := fun k => listed.getD k false) (S' := fun k => (listed.setIfInBounds j true).getD k false) hc ho hr hdir hSj hget
    obtain ⟨g1, g2, g3, g4, g5⟩ := F.step j o r ho hr
    have hcl : Closed ops (fun k => (listed.setIfInBounds j true).getD k false) := by
      intro i o' ho' hSi e he
      simp only [hget] at hSi ⊢
      cases hq : decide (i = j) with
      | true =>
        have : i = j := by simpa using hq
        subst this
        rw [ho] at ho'; cases ho'
        simp only [hdir e he, Bool.true_or]
      | false =>
        rw [hq, Bool.or_false] at hSi
        have := hc i o' ho' hSi e he
        simp only [this, Bool.true_or]
    have hcount : (listed.setIfInBounds j true).toList.count false ≤ fuel := by
      have e1 : (listed.setIfInBounds j true).toList = listed.toList.set j true := by simp
      have e2 : listed.toList[j]? = some false := by
        simp only [Array.getD, hlt, dif_pos] at hSj
        simp [hlt]
        exact hSj
      have : ∀ (l : List Bool) (j : Nat), l[j]? = some false → (l.set j true).count false + 1 = l.count false := by
        intro l
        induction l with
        | nil => intro j h; simp at h
        | cons b l ih =>
          intro j h
          cases j with
          | zero => simp at h; subst h; simp
          | succ j =>
            have := ih j (by simpa using h)
            cases b <;> simp [List.count_cons] <;> omega
      have := this listed.toList j e2
      rw [e1]; omega
    have hstep := g1 w G (hS s recs fun k => listed.getD k false) a (wpAny P .any ops Q fuel (listed.setIfInBounds j true)) Q x.inv p1 p2 (fun t d ht hd => x.rel t d (by rw [p3 t ht]; exact hd)) (fun v w' G' hv hi he => by
      refine ih _ _ _ G' (by simp [hsz]) hcount hcl ?_
      rw [← p4] at hv hi he
      refine ⟨?_, ?_, hi, x.ext.trans he, fun t d ht => ?_⟩
      · cases o.dst <;> exact x.defers
      · cases o.dst <;> simp [Act.put, x.size]
      · rw [p5] at ht
        rw [g2] at ht
        split at ht
        · rename_i e
          rw [e] at g3 ⊢
          have : ((a.put (some t) v).tmps.getD t undef) = v := by
            simp only [dstOk, decide_eq_true_eq] at g3
            have := x.size
            simp [Act.put, Array.getD, show t < a.tmps.size by omega]
          rw [this]
          cases ht
          cases hd : r.eff.d with
          | none => exact .any
          | some d' => exact hv d' hd
        · rename_i e
          have : ((a.put o.dst v).tmps.getD t undef) = a.tmps.getD t undef := by
            cases hdst : o.dst with
            | none => rfl
            | some u =>
              have hne : u ≠ t := fun q => e (by rw [hdst, q])
              simp [Act.put, Array.getElem?_setIfInBounds_ne hne]
          rw [this]
          exact (x.rel t d ht).ext he)
    unfold wpOp
    rw [ho]
    simp only
    split
    · rename_i hw; rw [if_pos hw] at hstep; exact .inl hstep
    · rename_i hw; rw [if_neg hw] at hstep; exact hstep
end

/-- A region in no fixed order. -/
theorem dreg_sound {P : Program} {c : Ctx} {ops : Array Oper} {K : St → Prop} {Q : Exit → Act → World → Prop} {s : St} {a : Act} {w : World} {G : Gh} {id : Nat} (hm : P.follows .mixedOrders = true)
    (x : SR c s a w G) (h : goD Ar.std P (prepDs P c.nt ops (ancs ops.toList []) 0 ops.toList) [] s K) (hq : ∀ s a w G, SR c s a w G → K s → Q .normal a w) : (Code.region id ops true).wp P Q a w := by
  obtain ⟨recs, q1, q2, q3, q4⟩ := goD_spec _ 0 [] s h rfl
  have F : Facts P c.nt ops (ancs ops.toList []) s recs := {
    len := by simpa using q1
    ok := q2
    step := fun j o r ho hr => by
      obtain ⟨a1, a2, a3, a4, a5, _⟩ := q4 j o r (by simpa using ho) hr
      exact ⟨a1, a2, a3, a4, by simpa using a5⟩
    un := fun j k o r x y ho hr hx hy hk => by
      obtain ⟨_, _, _, _, _, a6⟩ := q4 j o r (by simpa using ho) hr
      obtain ⟨⟨x', h1, h2⟩, y', h3, h4⟩ := a6 k (by simpa using hk)
      rw [hx] at h1; cases h1
      rw [List.nil_append, hy] at h3; cases h3
      exact ⟨h2, h4⟩
    anc := ancs_spec ops.toList [] (fun j => by simp) (fun j ks h => by simp at h) }
  refine wp_region_any hm ?_
  obtain ⟨i0, x0⟩ := drew_step x.inv
  have hfalse : ∀ k, (Array.replicate ops.size false).getD k false = false := fun k => by
    simp only [Array.getD]
    split <;> simp
  have e0 : hS s recs (fun k => (Array.replicate ops.size false).getD k false) = hpF s.hp := by
    funext i
    exact lastS_none _ _ _ fun j _ h => by rw [hfalse] at h; cases h
  have e1 : ∀ t, eS s recs (fun k => (Array.replicate ops.size false).getD k false) t = look t s.env := fun t => lastS_none _ _ _ fun j _ h => by rw [hfalse] at h; cases h
  refine any_sound F (fun a w G x => hq _ a w G x q3) ops.size _ a _ G (by simp) (by simp) (fun i o _ h => by have := hfalse i; simp only [this] at h; cases h) ⟨x.defers, x.size, by rw [e0]; exact i0, by rw [e0]; exact x.ext.trans x0, fun t d h => ?_⟩
  rw [e0]
  rw [e1] at h
  exact (x.rel t d h).ext x0

end Go.Proofs.Ytmnhoglkahmlaaa.Ab
