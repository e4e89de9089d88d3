/- The law FnExactUnnest: it returns true for every input, without a further condition. -/
import Derived.Test.YtfplalbognalkaaGreatMFnExactUnnest9
set_option linter.unusedSimpArgs false
set_option linter.unusedVariables false
set_option linter.unnecessarySimpa false
set_option linter.constructorNameAsVariable false
set_option maxRecDepth 100000
set_option maxHeartbeats 16000000
namespace Go.Proofs.YtfplalbognalkaaGreat.Ab
open Go Go.ChangeShapes Go.WideShapes Go.ChangeAt Go.RowKit
attribute [local irreducible] Tryz.prog
theorem lifted411 (os:Os) (started:os.Started) (H:Type) (enc:TypeId×Value->H):
  ReturnsInHanded {} Tryz.checked os 3 .any (Rows.fnExactUnnestSpec.pre6 enc Tryz.prog Tryz.f3 Rows.fnExactUnnestRow.domain false) (Rows.fnExactUnnestSpec.post enc Tryz.prog Tryz.f3 false true false false):=by
 refine law_lifted (tb:=4) own started (by kernel_rfl) Tryz.func3
  (ChangeSpec.witness6 (enc:=enc) (C:=Tryz.checked) false ⟨#[],#[.agg #[.slice none 0 0],.agg #[.slice none 0 0]], []⟩ 8 (by kernel_rfl) (by kernel_rfl) (by kernel_rfl) (by kernel_rfl))
  laid (of_decide_eq_true (by kernel_rfl)) Tryz.underlying4 rfl rfl (fun ds h=>?_) ?_
 ·match ds,h with
  | [d0,d1],_=>rfl
 ·intro W base args ds p hok hA _ hz
  have hA':DataW.TrodAll enc Tryz.prog W 0 (fun _=>true) true [24,27] args.toList ds p:=hA
  obtain ⟨v0,v1,d0,d1,p0,p1,rfl,rfl,_,h0,h1⟩:=trodAll_two hA'
  have hz': ∀k∈DataW.weightsEach Tryz.prog [24,27] [d0,d1],k<=reachBytes:=by
   have:=hz
   simp only [List.all_eq_true,decide_eq_true_eq] at this
   exact this
  obtain ⟨r0,a0,w0⟩:=arg_st (n:=6) Tryz.underlying24 (by kernel_rfl) (hok 0 24 v0 (by rw [Tryz.params3];rfl) rfl) h0 fun k hk=>hz' k (weightsEach_get (i:=0) rfl rfl k hk)
  obtain ⟨r1,a1,w1⟩:=arg_st (n:=6) Tryz.underlying27 (by kernel_rfl) (hok 1 27 v1 (by rw [Tryz.params3];rfl) rfl) h1 fun k hk=>hz' k (weightsEach_get (i:=1) rfl rfl k hk)
  obtain ⟨l,rfl⟩:=plan_shape w0
  obtain ⟨ts,rfl⟩:=db_shape w1
  refine law_walk (ok3 l _ rfl ts _ rfl) rfl fun j v d hv hd=>?_
  match j with
  | 0=>simp at hv hd;subst hv;subst hd;exact a0
  | 1=>simp at hv hd;subst hv;subst hd;exact a1
  | j+2=>simp at hv
end Go.Proofs.YtfplalbognalkaaGreat.Ab
namespace Go.Proofs.YtfplalbognalkaaGreat
theorem fnExactUnnest_holds:Rows.FnExactUnnestSaid:=
 OpenClaim.holds_of_wide 3 Tryz.f3 rfl rfl rfl rfl rfl rfl rfl ⟨rfl,rfl,rfl,rfl,rfl⟩ rfl rfl rfl rfl rfl (by kernel_rfl) Tryz.func3 (by kernel_rfl)
  (of_decide_eq_true (by kernel_rfl)) (by unfold Func.isWrapper;first | (rw [if_pos (by decide+kernel)];kernel_rfl) | (rw [if_neg (by decide+kernel)];exact ⟨rfl,rfl⟩))
  (fun os started H enc _=>Ab.lifted411 os started H enc)
end Go.Proofs.YtfplalbognalkaaGreat
#print axioms Go.Proofs.YtfplalbognalkaaGreat.fnExactUnnest_holds
