/-
  Texts of Ytbjlijagheifgaa, merged.
-/
import Derived.Test.YtbjlijagheifgaaD40
import Derived.Conc.LeavingOf
import Derived.Test.YtbjlijagheifgaaD41
set_option linter.unusedSimpArgs false
set_option linter.unusedVariables false
namespace Go.Proofs.Ytbjlijagheifgaa.lawDriverDeterministic
section
open Go Go.Side Go.Conc Go.ConcN Go.RowKit Go.ChangeShapes Go.WideShapes Go.ChangeAt
open Go.ChangeMaps (open_string shut_string)
theorem stood_frame{W w:World}(h:Stood W w)(may:MemPlace→Prop):W.keptBut w may:=⟨h.os,h.output,(Below.frame h may).2.2⟩
set_option maxRecDepth 100000 in
theorem lifted(os:Os)(started:os.Started)(H:Type)(enc:TypeId×Value→H):
  ReturnsInLeavingWide {} Try.checked os 9 .any (Rows.driverDeterministicSpec.pre6 enc Try.prog Try.f9 Rows.driverDeterministicRow.domain false) (Rows.driverDeterministicSpec.post enc Try.prog Try.f9 false true false false):=by
 refine returnsInLeavingWide_of_change_sized (C:=Try.checked) Try.own started Try.func9
  (ChangeSpec.witness6 (enc:=enc) (C:=Try.checked) false ⟨#[],#[.slice none 0 0,.int .i64 0,.slice none 0 0,.slice none 0 0],[]⟩ 8 (by kernel_rfl) (by kernel_rfl) (by kernel_rfl) (by kernel_rfl)) ?_
 intro W base args ds gs before hval0 hW hcnd _ _
 have hval:∀(j:Nat) t v,Try.f9.params[j]?=some t→args[j]?=some v→Value.okWide Try.prog W .any base t v:=hval0
 have hW':=hW
 obtain⟨p,q,hA0,hV,rfl,hfz,hnd⟩:=hW
 have hA:DataW.TrodAll enc Try.prog W 0 (fun _=>true) true Try.f9.params.toList args.toList ds p:=hA0
 rw[Try.params9] at hA hval
 obtain⟨v0,vs0,d0,ds0,p0,q0,hargs,rfl,rfl,h0,r0⟩:=trodAll_cons hA
 obtain⟨v1,vs1,d1,ds1,p1,q1,rfl,rfl,rfl,h1,r1⟩:=trodAll_cons r0
 obtain⟨v2,vs2,d2,ds2,p2,q2,rfl,rfl,rfl,h2,r2⟩:=trodAll_cons r1
 obtain⟨v3,vs3,d3,ds3,p3,q3,rfl,rfl,rfl,h3,r3⟩:=trodAll_cons r2
 obtain⟨rfl,rfl,rfl⟩:=trodAll_nil r3
 obtain rfl:args= #[v0,v1,v2,v3]:=by cases args;simp_all
 obtain⟨rfl,rfl⟩:=trodVars_none hV
 have k0:=h0
 have lt0:∀x∈p0,x.block<W.heap.size:=by obtain⟨m,hm⟩:=k0;exact DataW.trod_lt m _ _ _ hm
 obtain⟨a0,c0,x0,rfl,s0,g0,m0⟩:=tk_open h0 (hval 0 _ v0 rfl rfl)
 obtain⟨a1,rfl,rfl,rfl,w1⟩:=open_int Try.underlying3 (hval 1 3 v1 rfl rfl) h1
 have k2:=h2
 have lt2:∀x∈p2,x.block<W.heap.size:=by obtain⟨m,hm⟩:=k2;exact DataW.trod_lt m _ _ _ hm
 obtain⟨a2,c2,x2,rfl,s2,g2,m2⟩:=ints_open Try.underlying23 Try.underlying3 (by kernel_rfl) h2 (okWide_slice Try.underlying23 (hval 2 23 v2 rfl rfl))
 have k3:=h3
 have lt3:∀x∈p3,x.block<W.heap.size:=by obtain⟨m,hm⟩:=k3;exact DataW.trod_lt m _ _ _ hm
 obtain⟨a3,c3,x3,rfl,s3,g3,m3⟩:=ints_open Try.underlying23 Try.underlying3 (by kernel_rfl) h3 (okWide_slice Try.underlying23 (hval 3 23 v3 rfl rfl))
 clear hA0 hval0
 obtain⟨M,last,o,w',t',e1,e2,e3,e4⟩:=driverDeterministic_walk W a0 c0 x0 s0 g0 m0 a1 w1 a2 c2 x2 s2 g2 m2 a3 c3 x3 s3 g3 m3
 refine⟨M,last,o,w',t',e1,e2,e3,e4.mono fun e hF=>?_⟩
 obtain⟨he,bel⟩:=hF
 subst he
 exact⟨_,_,_,[],_,[],hW',trodAll_mk1 (shut_bool Try.underlying4 _),(trodAll_cons_mk (DataW.Trod.of_heap (w:={w' with tape:=W.tape}) (w':=w') rfl (Below.trod Try.laidOut (by kernel_rfl) (of_decide_eq_true (by kernel_rfl)) k0 bel lt0)) (trodAll_cons_mk (shut_int Try.underlying3 w1) (trodAll_cons_mk (DataW.Trod.of_heap (w:={w' with tape:=W.tape}) (w':=w') rfl (Below.trod Try.laidOut (by kernel_rfl) (of_decide_eq_true (by kernel_rfl)) k2 bel lt2)) (trodAll_cons_mk (DataW.Trod.of_heap (w:={w' with tape:=W.tape}) (w':=w') rfl (Below.trod Try.laidOut (by kernel_rfl) (of_decide_eq_true (by kernel_rfl)) k3 bel lt3)) trodAll_mk0)))),rfl,stood_frame bel _,fun h=>by cases h⟩
theorem over:Rows.driverDeterministicRow.holds Try.pinned (OpenSpec.ofChange Rows.driverDeterministicSpec):=
 OpenClaim.holds_of_wide_leaving 9 Try.f9 rfl rfl rfl rfl rfl rfl rfl ⟨rfl,rfl,rfl,rfl,rfl⟩ rfl rfl rfl rfl rfl (by kernel_rfl) Try.func9 (by kernel_rfl)
  (of_decide_eq_true (by kernel_rfl)) (by unfold Func.isWrapper;first|(rw[if_pos (by decide+kernel)];kernel_rfl)|(rw[if_neg (by decide+kernel)];exact⟨rfl,rfl⟩))
  (fun os started H enc _=>lifted os started H enc)
theorem proved:Rows.DriverDeterministicSaid:=over
#print axioms proved
end
end Go.Proofs.Ytbjlijagheifgaa.lawDriverDeterministic
