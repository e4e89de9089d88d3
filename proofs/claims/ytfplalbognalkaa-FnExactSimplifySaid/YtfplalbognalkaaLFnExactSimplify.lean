/- The law FnExactSimplify: it returns true for every input, without a further condition. -/
import Derived.Test.YtfplalbognalkaaMFnExactSimplify8
set_option linter.unusedSimpArgs false
set_option linter.unusedVariables false
set_option linter.unnecessarySimpa false
set_option linter.constructorNameAsVariable false
namespace Go.Proofs.Ytfplalbognalkaa.Ab
open Go Go.ChangeShapes Go.WideShapes Go.ChangeAt Go.RowKit
attribute [local irreducible] Try.prog
theorem agg_ok1 {w:World} {G:Gh} {h:Hp} {v:Value} {d0:D} {n:Int} (r:Rv w G h v (.agg [d0,.int n])):okV (.int .i64 n)=true:=by
  cases r with
  | @agg cs _ hl h1 hr=>
    have hl':cs.size=2:=by simpa using hl
    have:=rv_e (hr 1 cs[1] (.int n) (by simp [hl']) rfl)
    generalize cs[1]=c at this
    cases this with
    | v h=>exact h
theorem lifted204 (os:Os) (started:os.Started) (H:Type) (enc:TypeId×Value->H):
    ReturnsInHanded {} Try.checked os 9 .any (Rows.fnExactSimplifySpec.pre6 enc Try.prog Try.f9 Rows.fnExactSimplifyRow.domain false) (Rows.fnExactSimplifySpec.post enc Try.prog Try.f9 false true false false):=by
  refine law_lifted (tb:=4) own started (by kernel_rfl) Try.func9
    (ChangeSpec.witness6 (enc:=enc) (C:=Try.checked) false ⟨#[],#[.agg #[.slice none 0 0,.int .i64 0],.agg #[.slice none 0 0]], []⟩ 8 (by kernel_rfl) (by kernel_rfl) (by kernel_rfl) (by kernel_rfl))
    laid (of_decide_eq_true (by kernel_rfl)) Try.underlying4 rfl rfl (fun ds h=>?_) ?_
  · match ds,h with
    | [d0,d1],_=>rfl
  · intro W base args ds p hok hA _ hz
    have hA':DataW.TrodAll enc Try.prog W 0 (fun _=>true) true [49,52] args.toList ds p:=hA
    obtain ⟨v0,v1,d0,d1,p0,p1,rfl,rfl,_,h0,h1⟩:=trodAll_two hA'
    have hz': ∀k∈DataW.weightsEach Try.prog [49,52] [d0,d1],k<=reachBytes:=by
      have:=hz
      simp only [List.all_eq_true,decide_eq_true_eq] at this
      exact this
    obtain ⟨r0,a0,w0⟩:=arg_st (n:=6) Try.underlying49 (by kernel_rfl) (hok 0 49 v0 (by rw [Try.params9];rfl) rfl) h0 fun k hk=>hz' k (weightsEach_get (i:=0) rfl rfl k hk)
    obtain ⟨r1,a1,w1⟩:=arg_st (n:=6) Try.underlying52 (by kernel_rfl) (hok 1 52 v1 (by rw [Try.params9];rfl) rfl) h1 fun k hk=>hz' k (weightsEach_get (i:=1) rfl rfl k hk)
    obtain ⟨l,rt,rfl⟩:=flat_shape w0
    obtain ⟨ts,rfl⟩:=db_shape w1
    refine law_walk (ok9 l rt (agg_ok1 a0) _ rfl ts _ rfl) rfl fun j v d hv hd=>?_
    match j with
    | 0=>simp at hv hd;subst hv;subst hd;exact a0
    | 1=>simp at hv hd;subst hv;subst hd;exact a1
    | j+2=>simp at hv
end Go.Proofs.Ytfplalbognalkaa.Ab
namespace Go.Proofs.Ytfplalbognalkaa
theorem fnExactSimplify_holds:Rows.FnExactSimplifySaid:=
  OpenClaim.holds_of_wide 9 Try.f9 rfl rfl rfl rfl rfl rfl rfl ⟨rfl,rfl,rfl,rfl,rfl⟩ rfl rfl rfl rfl rfl (by kernel_rfl) Try.func9 (by kernel_rfl)
    (of_decide_eq_true (by kernel_rfl)) (by unfold Func.isWrapper;first | (rw [if_pos (by decide+kernel)];kernel_rfl) | (rw [if_neg (by decide+kernel)];exact ⟨rfl,rfl⟩))
    (fun os started H enc _=>Ab.lifted204 os started H enc)
end Go.Proofs.Ytfplalbognalkaa
#print axioms Go.Proofs.Ytfplalbognalkaa.fnExactSimplify_holds
