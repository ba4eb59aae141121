/-
  Texts of Ytbjlijagheifgaa, merged.
-/
import Derived.Test.YtbjlijagheifgaaR39
import Derived.Conc.LeavingOf
import Derived.Test.YtbjlijagheifgaaR40
set_option linter.unusedSimpArgs false
set_option linter.unusedVariables false
namespace Go.Proofs.Ytbjlijagheifgaa.lawDriverCircle
section
open Go Go.Side Go.Conc Go.ConcN Go.RowKit Go.ChangeShapes Go.WideShapes Go.ChangeAt
open Go.ChangeMaps (open_string shut_string)
theorem stood_frame{W w:World}(h:Stood W w)(may:MemPlace→Prop):W.keptBut w may:=⟨h.os,h.output,(Below.frame h may).2.2⟩
set_option maxRecDepth 100000 in
theorem lifted(os:Os)(started:os.Started)(H:Type)(enc:TypeId×Value→H):
  ReturnsInLeavingWide {} Try.checked os 4 .any (Rows.driverCircleSpec.pre6 enc Try.prog Try.f4 Rows.driverCircleRow.domain false) (Rows.driverCircleSpec.post enc Try.prog Try.f4 false true false false):=by
 refine returnsInLeavingWide_of_change_sized (C:=Try.checked) Try.own started Try.func4
  (ChangeSpec.witness6 (enc:=enc) (C:=Try.checked) false ⟨#[],#[.int .u8 0,.int .u8 0,.bool false,.slice none 0 0],[]⟩ 8 (by kernel_rfl) (by kernel_rfl) (by kernel_rfl) (by kernel_rfl)) ?_
 intro W base args ds gs before hval0 hW hcnd _ _
 have hval:∀(j:Nat) t v,Try.f4.params[j]?=some t→args[j]?=some v→Value.okWide Try.prog W .any base t v:=hval0
 have hW':=hW
 obtain⟨p,q,hA0,hV,rfl,hfz,hnd⟩:=hW
 have hA:DataW.TrodAll enc Try.prog W 0 (fun _=>true) true Try.f4.params.toList args.toList ds p:=hA0
 rw[Try.params4] at hA hval
 obtain⟨v0,vs0,d0,ds0,p0,q0,hargs,rfl,rfl,h0,r0⟩:=trodAll_cons hA
 obtain⟨v1,vs1,d1,ds1,p1,q1,rfl,rfl,rfl,h1,r1⟩:=trodAll_cons r0
 obtain⟨v2,vs2,d2,ds2,p2,q2,rfl,rfl,rfl,h2,r2⟩:=trodAll_cons r1
 obtain⟨v3,vs3,d3,ds3,p3,q3,rfl,rfl,rfl,h3,r3⟩:=trodAll_cons r2
 obtain⟨rfl,rfl,rfl⟩:=trodAll_nil r3
 obtain rfl:args= #[v0,v1,v2,v3]:=by cases args;simp_all
 obtain⟨rfl,rfl⟩:=trodVars_none hV
 obtain⟨a0,rfl,rfl,rfl,w0⟩:=open_int Try.underlying5 (hval 0 5 v0 rfl rfl) h0
 obtain⟨a1,rfl,rfl,rfl,w1⟩:=open_int Try.underlying5 (hval 1 5 v1 rfl rfl) h1
 obtain⟨a2,rfl,rfl,rfl⟩:=open_bool Try.underlying4 (hval 2 4 v2 rfl rfl) h2
 have k3:=h3
 have lt3:∀x∈p3,x.block<W.heap.size:=by obtain⟨m,hm⟩:=k3;exact DataW.trod_lt m _ _ _ hm
 obtain⟨a3,c3,x3,rfl,s3,g3,m3⟩:=ints_open Try.underlying23 Try.underlying3 (by kernel_rfl) h3 (okWide_slice Try.underlying23 (hval 3 23 v3 rfl rfl))
 clear hA0 hval0
 obtain⟨M,last,o,w',t',e1,e2,e3,e4⟩:=driverCircle_walk W a0 w0 a1 w1 a2 a3 c3 x3 s3 g3 m3
 refine⟨M,last,o,w',t',e1,e2,e3,e4.mono fun e hF=>?_⟩
 obtain⟨he,bel⟩:=hF
 subst he
 exact⟨_,_,_,[],_,[],hW',trodAll_mk1 (shut_bool Try.underlying4 _),(trodAll_cons_mk (shut_int Try.underlying5 w0) (trodAll_cons_mk (shut_int Try.underlying5 w1) (trodAll_cons_mk (shut_bool Try.underlying4 a2) (trodAll_cons_mk (DataW.Trod.of_heap (w:={w' with tape:=W.tape}) (w':=w') rfl (Below.trod Try.laidOut (by kernel_rfl) (of_decide_eq_true (by kernel_rfl)) k3 bel lt3)) trodAll_mk0)))),rfl,stood_frame bel _,fun h=>by cases h⟩
theorem over:Rows.driverCircleRow.holds Try.pinned (OpenSpec.ofChange Rows.driverCircleSpec):=
 OpenClaim.holds_of_wide_leaving 4 Try.f4 rfl rfl rfl rfl rfl rfl rfl ⟨rfl,rfl,rfl,rfl,rfl⟩ rfl rfl rfl rfl rfl (by kernel_rfl) Try.func4 (by kernel_rfl)
  (of_decide_eq_true (by kernel_rfl)) (by unfold Func.isWrapper;first|(rw[if_pos (by decide+kernel)];kernel_rfl)|(rw[if_neg (by decide+kernel)];exact⟨rfl,rfl⟩))
  (fun os started H enc _=>lifted os started H enc)
theorem proved:Rows.DriverCircleSaid:=over
#print axioms proved
end
end Go.Proofs.Ytbjlijagheifgaa.lawDriverCircle
