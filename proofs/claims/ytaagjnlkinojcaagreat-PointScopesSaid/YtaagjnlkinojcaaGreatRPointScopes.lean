/-
  The statement of PointScopes: for every input the law returns true, and each argument reads afterwards as it read before. No condition.
-/
import Derived.Test.YtaagjnlkinojcaaGreatRows
import Derived.Test.YtaagjnlkinojcaaGreatK22
namespace Go.Proofs.YtaagjnlkinojcaaGreat.pointScopes
open Go Go.ChangeShapes Go.WideShapes Go.ChangeAt Go.RowKit Go.Sx
open Go.Proofs.YtaagjnlkinojcaaGreat
set_option linter.unusedVariables false
theorem own:ownKnob Tryz.prog.godebug=none:=by kernel_rfl
theorem laidOut:laidOutB Tryz.prog=true:=by kernel_rfl
set_option maxRecDepth 100000 in
theorem lifted (os:Os) (started:os.Started) (H:Type) (enc:TypeId×Value→H):
  ReturnsInHanded {} Tryz.checked os 6 .any (Rows.pointScopesSpec.pre6 enc Tryz.prog Tryz.f6 Rows.pointScopesRow.domain false) (Rows.pointScopesSpec.post enc Tryz.prog Tryz.f6 false true false false):=by
 refine returnsInHanded_of_change (C:=Tryz.checked) own started (by kernel_rfl) Tryz.func6
  (ChangeSpec.witness6 (enc:=enc) (C:=Tryz.checked) false ⟨#[],#[.agg #[.bool false,.slice none 0 0,.slice none 0 0,.bool false,.bool false,.bool false,.bool false,.slice none 0 0],.slice none 0 0],[]⟩ 8 (by kernel_rfl) (by kernel_rfl) (by kernel_rfl) (by kernel_rfl)) ?_
 intro W base args ds gs before hval0 hW hcnd _
 have hval:∀(j:Nat) t v,Tryz.f6.params[j]? =some t→args[j]? =some v→Value.okWide Tryz.prog W .any base t v:=hval0
 have hW':=hW
 obtain⟨p,q,hA0,hV,rfl,hfz,hnd⟩:=hW
 have hA:DataW.TrodAll enc Tryz.prog W 0 (fun _=>true) true Tryz.f6.params.toList args.toList ds p:=hA0
 rw[Tryz.params6] at hA hval
 obtain⟨v0,vs0,d0,ds0,p0,q0,hargs,rfl,rfl,h0,r0⟩:=trodAll_cons hA
 obtain⟨v1,vs1,d1,ds1,p1,q1,rfl,rfl,rfl,h1,r1⟩:=trodAll_cons r0
 obtain⟨rfl,rfl,rfl⟩:=trodAll_nil r1
 obtain rfl:args= #[v0,v1]:=by cases args; simp_all
 obtain⟨rfl,rfl⟩:=trodVars_none hV
 have k0:=h0
 have lt0:∀ x ∈ p0,x.block<W.heap.size:=by obtain⟨m,hm⟩:=k0; exact DataW.trod_lt m _ _ _ hm
 obtain⟨⟨⟨x0_0,x0_1,x0_2⟩,x0_3,x0_4,x0_5,x0_6,x0_7⟩,⟨⟨_,⟨hlx0_1,hwx0_1⟩,⟨hlx0_2,hwx0_2⟩⟩,_,_,_,_,⟨hlx0_7,hwx0_7⟩⟩,a0⟩:=ziR Tryz.underlying75 (by kernel_rfl) (zcS Tryz.underlying75 (z4b rfl (by kernel_rfl) (z8R Tryz.underlying41 ⟨rfl,rfl,rfl⟩ (by kernel_rfl) (by kernel_rfl) (by kernel_rfl) (z1T (z5f Tryz.underlying4)) (z5v Tryz.underlying38 (by kernel_rfl) (by kernel_rfl) (z8R Tryz.underlying148 ⟨rfl,rfl,rfl⟩ (by kernel_rfl) (by kernel_rfl) (by kernel_rfl) (z1T (ziQ Tryz.underlying3)) (z1T (z7i Tryz.underlying28 Tryz.underlying5 (by kernel_rfl))) (z5v Tryz.underlying56 (by kernel_rfl) (by kernel_rfl) (z5v Tryz.underlying39 (by kernel_rfl) (by kernel_rfl) (zbg Tryz.underlying138 ⟨rfl,rfl⟩ (by kernel_rfl) (by kernel_rfl) (z1T (z82 Tryz.underlying22 Tryz.underlying3 (by kernel_rfl))) (z1T (z7i Tryz.underlying28 Tryz.underlying5 (by kernel_rfl)))))))) (z5v Tryz.underlying39 (by kernel_rfl) (by kernel_rfl) (zbg Tryz.underlying138 ⟨rfl,rfl⟩ (by kernel_rfl) (by kernel_rfl) (z1T (z82 Tryz.underlying22 Tryz.underlying3 (by kernel_rfl))) (z1T (z7i Tryz.underlying28 Tryz.underlying5 (by kernel_rfl)))))) (z4b rfl (by kernel_rfl) (z1T (z5f Tryz.underlying4)) (z4b rfl (by kernel_rfl) (z1T (z5f Tryz.underlying4)) (z4b rfl (by kernel_rfl) (z1T (z5f Tryz.underlying4)) (z4b rfl (by kernel_rfl) (z1T (z5f Tryz.underlying4)) (z9Z rfl (by kernel_rfl) (z1T (z82 Tryz.underlying22 Tryz.underlying3 (by kernel_rfl)))))))))) (hval 0 75 v0 rfl rfl) h0
 have k1:=h1
 have lt1:∀ x ∈ p1,x.block<W.heap.size:=by obtain⟨m,hm⟩:=k1; exact DataW.trod_lt m _ _ _ hm
 obtain⟨l1,hl1,hw1,a1⟩:=Sx.open_bytes Tryz.underlying28 Tryz.underlying5 (by kernel_rfl) (hval 1 28 v1 rfl rfl) h1
 clear hA0 hval0
 have hcalls:=Ct.calls (zdH x0_0 x0_1 x0_2 x0_3 x0_4 x0_5 x0_6 x0_7 l1 hlx0_1 hlx0_2 hlx0_7 hl1 hwx0_1 hwx0_2 hw1) W [v0,v1] rfl fun i x v hx hv=>by
  match i,hx,hv with
  | 0,hx,hv=>simp at hx hv; subst hx hv; exact a0 _
  | 1,hx,hv=>simp at hx hv; subst hx hv; exact a1 _
 refine hcalls.mono fun e W' ⟨he,bel⟩=>?_
 subst he
 exact⟨_,rfl,_,_,_,[],_,[],hW',trodAll_mk1 (shut_bool Tryz.underlying4 _),(trodAll_cons_mk (Below.trod laidOut (by kernel_rfl) (of_decide_eq_true (by kernel_rfl)) k0 bel lt0) (trodAll_cons_mk (Below.trod laidOut (by kernel_rfl) (of_decide_eq_true (by kernel_rfl)) k1 bel lt1) trodAll_mk0)),rfl,bel.frame _,fun h=>by cases h⟩
theorem over:Rows.pointScopesRow.holds Tryz.pinned (OpenSpec.ofChange Rows.pointScopesSpec):=
 OpenClaim.holds_of_wide 6 Tryz.f6 rfl rfl rfl rfl rfl rfl rfl ⟨rfl,rfl,rfl,rfl,rfl⟩ rfl rfl rfl rfl rfl (by kernel_rfl) Tryz.func6 (by kernel_rfl)
  (of_decide_eq_true (by kernel_rfl)) (by unfold Func.isWrapper; first |(rw[if_pos (by decide+kernel)]; kernel_rfl) |(rw[if_neg (by decide+kernel)]; exact⟨rfl,rfl⟩))
  (fun os started H enc _=>lifted os started H enc)
theorem proved:Rows.PointScopesSaid:=over
#print axioms proved
end Go.Proofs.YtaagjnlkinojcaaGreat.pointScopes
