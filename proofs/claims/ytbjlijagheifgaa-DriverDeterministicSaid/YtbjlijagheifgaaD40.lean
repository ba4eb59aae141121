/-
  Texts of Ytbjlijagheifgaa, merged.
-/
import Derived.Test.YtbjlijagheifgaaD38
import Derived.Test.YtbjlijagheifgaaD39
import Derived.Test.YtbjlijagheifgaaD37
import Derived.Test.YtbjlijagheifgaaD24
import Derived.Test.YtbjlijagheifgaaRows
import Derived.ProofKit
import Derived.OpenShut
import Derived.ShutString
import Derived.ChangeOld
import Derived.Deep.Slices
set_option linter.unusedSimpArgs false
set_option linter.unusedVariables false
namespace Go.Side
section
open Go Go.Conc Go.ConcN Go.Proofs Go.RowKit Go.Proofs.Ytbjlijagheifgaa
noncomputable def b9:Code:=Try.f9.body.getD .skip
noncomputable def ops9:Array Oper:=opsR (fstOf (fstOf (sndOf b9)))
noncomputable def d9:Nat→Code
 |0=>sndOf (sndOf b9)
 |k+1=>sndOf (d9 k)
theorem b9_eq:b9= .seq (fstOf b9) (.seq (.seq (.region 1 ops9 false) (sndOf (fstOf (sndOf b9)))) (d9 0)):=by rfl
theorem d9_seq(k:Nat)(h:k<5):d9 k= .seq (fstOf (d9 k)) (d9 (k+1)):=by
 have:k=0∨k=1∨k=2∨k=3∨k=4:=by omega
 rcases this with rfl|rfl|rfl|rfl|rfl<;>rfl
noncomputable def opsX:Array Oper:=opsR (fstOf (d9 3))
noncomputable def opsY:Array Oper:=opsR (fstOf (d9 4))
theorem d9_3:fstOf (d9 3)= .region 25 opsX false:=by rfl
theorem d9_4:fstOf (d9 4)= .region 26 opsY false:=by rfl
theorem q9_0:([Item.code (fstOf b9)].all (itemPlain false none Try.prog lawFns))=true:=by kernel_rfl
theorem q9_1:([Item.inRegion ops9 [1],Item.code (sndOf (fstOf (sndOf b9)))].all (itemPlain false none Try.prog lawFns))=true:=by kernel_rfl
theorem p9_0:([Item.code (fstOf (d9 0))].all (itemPlain false none Try.prog lawFns))=true:=by kernel_rfl
theorem p9_1:([Item.code (fstOf (d9 1))].all (itemPlain true none Try.prog noFns))=true:=by kernel_rfl
theorem p9_2:([Item.code (fstOf (d9 2))].all (itemPlain true none Try.prog noFns))=true:=by kernel_rfl
theorem p9_3:([Item.inRegion opsX [4,5,6,7,8,9]].all (itemPlain false none Try.prog lawFns))=true:=by kernel_rfl
theorem p9_4:([Item.inRegion opsY [4,5,6,7,8,9],Item.code (d9 5)].all (itemPlain false none Try.prog lawFns))=true:=by kernel_rfl
def QNd(R:Act→World→Prop):Exit→Act→World→Prop
 | .normal,a,w=>R a w
 |_,_,_=>False
def Fr9(nx:(Nat→Value)→Act)(p:World→Prop)(a':Act)(u':World):Prop:=(∃g,a'=nx g)∧p u'
theorem exh{a:Act}{nx:(Nat→Value)→Act}(h:a=nx fun i=>a.tmps.getD i undef):∃f,a=nx f:=⟨_,h⟩
def GdX(r:Nat)(W:World)(p:Prop)(fr:Act→Prop)(e:Exit)(a':Act)(u':World):Prop:=Ext W u'∧((e= .ret∧a'.tmps.getD r undef= .bool true)∨(e= .normal∧p∧fr a'))
def ScI(L:List TkD)(i j:Nat)(F1 F2:Int→Option Nat):Prop:=
 ∀(k:Nat) (t:TkD),L[k]?=some t→∀(m:Nat) (o:OpD),t.ops[m]?=some o→(k<i∨(k=i∧m<j))→o.kind≠3∧(o.kind=1→F1 o.chan=some k)∧(o.kind=2→F2 o.chan=some k)
section
variable {L:List TkD} {i j:Nat} {F1 F2:Int→Option Nat} {t:TkD} {o:OpD}
theorem ScI.start:ScI L 0 0 F1 F2:=fun k t _ m o _ h=>by omega
theorem ScI.row(h:ScI L i j F1 F2)(ht:L[i]?=some t)(hj:t.ops.length≤j):ScI L (i+1) 0 F1 F2:=fun k t' ht' m o ho hk=>by
 refine h k t' ht' m o ho ?_
 by_cases e:k=i
 ·subst e
  obtain rfl:t=t':=Option.some.inj (ht.symm.trans ht')
  exact .inr ⟨rfl,Nat.lt_of_lt_of_le (List.getElem?_eq_some_iff.1 ho).1 hj⟩
 ·exact .inl (by omega)
theorem ScI.add(h:ScI L i j F1 F2)(ht:L[i]?=some t)(ho:t.ops[j]?=some o)(hk:o.kind=4):ScI L i (j+1) F1 F2:=fun k t' ht' m o' ho' hk'=>by
 by_cases e:k=i∧m=j
 ·obtain⟨rfl,rfl⟩:=e
  obtain rfl:t=t':=Option.some.inj (ht.symm.trans ht')
  obtain rfl:o=o':=Option.some.inj (ho.symm.trans ho')
  exact⟨by omega,fun e=>by omega,fun e=>by omega⟩
 ·exact h k t' ht' m o' ho' (by omega)
theorem mpPut_same(F:Int→Option Nat)(c:Int)(x:Nat):mpPut F c x c=some x:=if_pos rfl
theorem mpPut_keep{F:Int→Option Nat}{c d:Int}{x k:Nat}(h:F c=none∨F c=some x)(hd:F d=some k):mpPut F c x d=some k:=by
 unfold mpPut
 split
 ·rename_i e
  subst e
  rcases h with h|h
  ·rw[h] at hd;cases hd
  ·rw[h] at hd;exact hd
 ·exact hd
theorem ScI.snd(h:ScI L i j F1 F2)(ht:L[i]?=some t)(ho:t.ops[j]?=some o)(hk:o.kind=1)(hF:F1 o.chan=none∨F1 o.chan=some i):ScI L i (j+1) (mpPut F1 o.chan i) F2:=fun k t' ht' m o' ho' hk'=>by
 by_cases e:k=i∧m=j
 ·obtain⟨rfl,rfl⟩:=e
  obtain rfl:t=t':=Option.some.inj (ht.symm.trans ht')
  obtain rfl:o=o':=Option.some.inj (ho.symm.trans ho')
  exact⟨by omega,fun _=>mpPut_same _ _ _,fun e=>by omega⟩
 ·obtain⟨h1,h2,h3⟩:=h k t' ht' m o' ho' (by omega)
  exact⟨h1,fun e=>mpPut_keep hF (h2 e),h3⟩
theorem ScI.rcv(h:ScI L i j F1 F2)(ht:L[i]?=some t)(ho:t.ops[j]?=some o)(hk:o.kind=2)(hF:F2 o.chan=none∨F2 o.chan=some i):ScI L i (j+1) F1 (mpPut F2 o.chan i):=fun k t' ht' m o' ho' hk'=>by
 by_cases e:k=i∧m=j
 ·obtain⟨rfl,rfl⟩:=e
  obtain rfl:t=t':=Option.some.inj (ht.symm.trans ht')
  obtain rfl:o=o':=Option.some.inj (ho.symm.trans ho')
  exact⟨by omega,fun e=>by omega,fun _=>mpPut_same _ _ _⟩
 ·obtain⟨h1,h2,h3⟩:=h k t' ht' m o' ho' (by omega)
  exact⟨h1,h2,fun e=>mpPut_keep hF (h3 e)⟩
theorem ScI.done(h:ScI L L.length 0 F1 F2):NoRace L:=by
 have g:∀(k:Nat) (t:TkD),L[k]?=some t→∀o∈t.ops,o.kind≠3∧(o.kind=1→F1 o.chan=some k)∧(o.kind=2→F2 o.chan=some k):=fun k t ht o ho=>by
  obtain⟨m,hm⟩:=List.getElem?_of_mem ho
  exact h k t ht m o hm (.inl (List.getElem?_eq_some_iff.1 ht).1)
 exact⟨⟨F1,fun k t ht o ho=>(g k t ht o ho).2.1⟩,⟨F2,fun k t ht o ho=>(g k t ht o ho).2.2⟩,fun k t ht o ho=>(g k t ht o ho).1⟩
end
theorem det_valid{ch:Int}{L:List TkD}(h:validT ch L=true):L.length≤8∧∀(i:Nat) (t:TkD),L[i]?=some t→t.ops.length≤30∧∀(j:Nat) (o:OpD),t.ops[j]?=some o→(o.kind=1∨o.kind=2∨o.kind=3∨o.kind=4)∧(o.kind=1∨o.kind=2→0≤o.chan∧o.chan≤8):=by
 unfold validT at h
 simp only[Bool.and_eq_true,decide_eq_true_eq,List.all_eq_true] at h
 obtain⟨h1,h2,h3,h4⟩:=h
 refine⟨h1,fun i t ht=>?_⟩
 have h5:=h4 t (List.mem_of_getElem? ht)
 unfold validL at h5
 simp only[Bool.and_eq_true,decide_eq_true_eq,List.all_eq_true] at h5
 refine⟨h5.1,fun j o ho=>?_⟩
 have h6:=h5.2 o (List.mem_of_getElem? ho)
 unfold validO chOk at h6
 split at h6
 ·rename_i e
  simp only[Bool.and_eq_true,decide_eq_true_eq] at h6
  exact⟨.inl e,fun _=>by omega⟩
 ·split at h6
  ·rename_i e
   simp only[Bool.and_eq_true,decide_eq_true_eq] at h6
   exact⟨.inr (.inl e),fun _=>by omega⟩
  ·split at h6
   ·rename_i e;exact⟨.inr (.inr (.inr e)),fun h=>by omega⟩
   ·split at h6
    ·rename_i e;exact⟨.inr (.inr (.inl e)),fun h=>by omega⟩
    ·cases h6
section
variable {a b ea:Option Addr} {c d ec:Nat} {L:List TkD} {ch:Int} {chs more:List Int}
set_option maxRecDepth 100000 in
set_option maxHeartbeats 4000000 in
theorem wq9_0(u:World)(f:Nat→Value):(fstOf b9).wp Try.prog (fun e a' u'=>e= .normal∧a'=⟨#[.slice a L.length c,.int .i64 ch,.slice b chs.length d,.slice ea more.length ec,f 4,f 5,f 6,f 7,.bool false,f 9,f 10,f 11,f 12,f 13,f 14,f 15,f 16,f 17,f 18,f 19,f 20,f 21,f 22,f 23,f 24,f 25,f 26,f 27,f 28,f 29,f 30,f 31,f 32,f 33,f 34,f 35,f 36,f 37,f 38,f 39,f 40,f 41,f 42,f 43,f 44,f 45,f 46,f 47,f 48,f 49,f 50,f 51,f 52,f 53,f 54,f 55,f 56,f 57,f 58,f 59,f 60,f 61,f 62,f 63,f 64,f 65,f 66,f 67,f 68,f 69,f 70,f 71,f 72,f 73,f 74,f 75,f 76,f 77,f 78,f 79,f 80,f 81,f 82,f 83,f 84,f 85,f 86,f 87,f 88,f 89,f 90,f 91,f 92,f 93,f 94,f 95,f 96,f 97,f 98,f 99,f 100,f 101,f 102,f 103,f 104,f 105,f 106,f 107,f 108,f 109,f 110,f 111,f 112,f 113,f 114,f 115,f 116,f 117,f 118,f 119,f 120,f 121,f 122,f 123,f 124,f 125,f 126,f 127,f 128],[]⟩∧u'=u) ⟨#[.slice a L.length c,.int .i64 ch,.slice b chs.length d,.slice ea more.length ec,f 4,f 5,f 6,f 7,f 8,f 9,f 10,f 11,f 12,f 13,f 14,f 15,f 16,f 17,f 18,f 19,f 20,f 21,f 22,f 23,f 24,f 25,f 26,f 27,f 28,f 29,f 30,f 31,f 32,f 33,f 34,f 35,f 36,f 37,f 38,f 39,f 40,f 41,f 42,f 43,f 44,f 45,f 46,f 47,f 48,f 49,f 50,f 51,f 52,f 53,f 54,f 55,f 56,f 57,f 58,f 59,f 60,f 61,f 62,f 63,f 64,f 65,f 66,f 67,f 68,f 69,f 70,f 71,f 72,f 73,f 74,f 75,f 76,f 77,f 78,f 79,f 80,f 81,f 82,f 83,f 84,f 85,f 86,f 87,f 88,f 89,f 90,f 91,f 92,f 93,f 94,f 95,f 96,f 97,f 98,f 99,f 100,f 101,f 102,f 103,f 104,f 105,f 106,f 107,f 108,f 109,f 110,f 111,f 112,f 113,f 114,f 115,f 116,f 117,f 118,f 119,f 120,f 121,f 122,f 123,f 124,f 125,f 126,f 127,f 128],[]⟩ u:=by
 unfold b9
 conv in Option.getD _ _=>whnf
 dsimp only[fstOf]
 go_wp2_with fail
set_option maxRecDepth 100000 in
set_option maxHeartbeats 4000000 in
theorem wq9_1(u:World)(f:Nat→Value):ItemsWp Try.prog [.inRegion ops9 [1],.code (sndOf (fstOf (sndOf b9)))] (fun e a' u'=>e= .normal∧a'=⟨#[.slice a L.length c,.int .i64 ch,.slice b chs.length d,.slice ea more.length ec,f 4,f 5,f 6,f 7,.bool false,f 9,f 10,f 11,f 12,f 13,f 14,f 15,f 16,f 17,f 18,f 19,f 20,f 21,.bool true,.bool false,f 24,f 25,f 26,f 27,f 28,f 29,f 30,f 31,f 32,f 33,f 34,f 35,f 36,f 37,f 38,f 39,f 40,f 41,f 42,f 43,f 44,f 45,f 46,f 47,f 48,f 49,f 50,f 51,f 52,f 53,f 54,f 55,f 56,f 57,f 58,f 59,f 60,f 61,f 62,f 63,f 64,f 65,f 66,f 67,f 68,f 69,f 70,f 71,f 72,f 73,f 74,f 75,f 76,f 77,f 78,f 79,f 80,f 81,f 82,f 83,f 84,f 85,f 86,f 87,f 88,f 89,f 90,f 91,f 92,f 93,f 94,f 95,f 96,f 97,f 98,f 99,f 100,f 101,f 102,f 103,f 104,f 105,f 106,f 107,f 108,f 109,f 110,f 111,f 112,f 113,f 114,f 115,f 116,f 117,f 118,f 119,f 120,f 121,f 122,f 123,f 124,f 125,f 126,f 127,f 128],[]⟩∧u'=u) ⟨#[.slice a L.length c,.int .i64 ch,.slice b chs.length d,.slice ea more.length ec,f 4,f 5,f 6,f 7,.bool false,f 9,f 10,f 11,f 12,f 13,f 14,f 15,f 16,f 17,f 18,f 19,f 20,f 21,.bool true,f 23,f 24,f 25,f 26,f 27,f 28,f 29,f 30,f 31,f 32,f 33,f 34,f 35,f 36,f 37,f 38,f 39,f 40,f 41,f 42,f 43,f 44,f 45,f 46,f 47,f 48,f 49,f 50,f 51,f 52,f 53,f 54,f 55,f 56,f 57,f 58,f 59,f 60,f 61,f 62,f 63,f 64,f 65,f 66,f 67,f 68,f 69,f 70,f 71,f 72,f 73,f 74,f 75,f 76,f 77,f 78,f 79,f 80,f 81,f 82,f 83,f 84,f 85,f 86,f 87,f 88,f 89,f 90,f 91,f 92,f 93,f 94,f 95,f 96,f 97,f 98,f 99,f 100,f 101,f 102,f 103,f 104,f 105,f 106,f 107,f 108,f 109,f 110,f 111,f 112,f 113,f 114,f 115,f 116,f 117,f 118,f 119,f 120,f 121,f 122,f 123,f 124,f 125,f 126,f 127,f 128],[]⟩ u:=by
 refine ItemsWp.then (k:=1) (l:=ops9.toList.drop 1) rfl rfl fun K hK=>?_
 conv in(occs:= *) ops9=>
  all_goals
   unfold ops9 opsR b9
   whnf
 unfold b9 at hK
 conv at hK in Option.getD _ _=>whnf
 dsimp only[sndOf,fstOf] at hK
 simp only[List.drop_succ_cons,List.drop_zero]
 go_wp2_with fail
set_option maxRecDepth 100000 in
set_option maxHeartbeats 4000000 in
theorem wp9_0(u:World)(f:Nat→Value)(hs:SlT u a L)(hl:L.length≤maxLen)(hl2:chs.length≤maxLen)(hl3:more.length≤maxLen):
  (fstOf (d9 0)).wp Try.prog (GdQ 8 u ((greatB L=false∧chs.length≤300∧more.length≤300)∧validT ch L=true) fun a'=>∃g:Nat→Value,a'=⟨#[.slice a L.length c,.int .i64 ch,.slice b chs.length d,.slice ea more.length ec,g 4,g 5,g 6,g 7,.bool false,g 9,g 10,g 11,g 12,g 13,g 14,g 15,g 16,g 17,g 18,g 19,g 20,g 21,g 22,g 23,g 24,g 25,g 26,g 27,g 28,g 29,g 30,g 31,g 32,g 33,g 34,g 35,g 36,g 37,g 38,g 39,g 40,g 41,g 42,g 43,g 44,g 45,g 46,g 47,g 48,g 49,g 50,g 51,g 52,g 53,g 54,g 55,g 56,g 57,g 58,g 59,g 60,g 61,g 62,g 63,g 64,g 65,g 66,g 67,g 68,g 69,g 70,g 71,g 72,g 73,g 74,g 75,g 76,g 77,g 78,g 79,g 80,g 81,g 82,g 83,g 84,g 85,g 86,g 87,g 88,g 89,g 90,g 91,g 92,g 93,g 94,g 95,g 96,g 97,g 98,g 99,g 100,g 101,g 102,g 103,g 104,g 105,g 106,g 107,g 108,g 109,g 110,g 111,g 112,g 113,g 114,g 115,g 116,g 117,g 118,g 119,g 120,g 121,g 122,g 123,g 124,g 125,g 126,g 127,g 128],[]⟩) ⟨#[.slice a L.length c,.int .i64 ch,.slice b chs.length d,.slice ea more.length ec,f 4,f 5,f 6,f 7,.bool false,f 9,f 10,f 11,f 12,f 13,f 14,f 15,f 16,f 17,f 18,f 19,f 20,f 21,f 22,f 23,f 24,f 25,f 26,f 27,f 28,f 29,f 30,f 31,f 32,f 33,f 34,f 35,f 36,f 37,f 38,f 39,f 40,f 41,f 42,f 43,f 44,f 45,f 46,f 47,f 48,f 49,f 50,f 51,f 52,f 53,f 54,f 55,f 56,f 57,f 58,f 59,f 60,f 61,f 62,f 63,f 64,f 65,f 66,f 67,f 68,f 69,f 70,f 71,f 72,f 73,f 74,f 75,f 76,f 77,f 78,f 79,f 80,f 81,f 82,f 83,f 84,f 85,f 86,f 87,f 88,f 89,f 90,f 91,f 92,f 93,f 94,f 95,f 96,f 97,f 98,f 99,f 100,f 101,f 102,f 103,f 104,f 105,f 106,f 107,f 108,f 109,f 110,f 111,f 112,f 113,f 114,f 115,f 116,f 117,f 118,f 119,f 120,f 121,f 122,f 123,f 124,f 125,f 126,f 127,f 128],[]⟩ u:=by
 have G:=Lib.hid (great_any u a c L hs hl)
 have S:=Lib.hid hs
 clear hs
 have HL:=Lib.hid hl
 unfold maxLen at hl hl2 hl3
 unfold d9 b9
 conv in Option.getD _ _=>whnf
 dsimp only[fstOf,sndOf]
 go_wp2_with fail
 refine G.out.mono ?_
 rintro e w1 ⟨rfl,hb⟩
 have B1:=Lib.hid hb
 clear G hb
 cases hg:greatB L with
 |true=>
  clear hg
  go_wp2_with fail
  exact⟨B1.out,.inl ⟨rfl,rfl⟩⟩
 |false=>
  have HG:=Lib.hid hg
  clear hg
  by_cases h3:300<chs.length
  ·have i3:(300:Int)<(chs.length:Int):=by omega
   clear h3
   go_wp2_with fail
   exact⟨B1.out,.inl ⟨rfl,rfl⟩⟩
  ·have i3:¬(300:Int)<(chs.length:Int):=by omega
   have H3:Hid (chs.length≤300):=Lib.hid (by omega)
   clear h3
   by_cases h4:300<more.length
   ·have i4:(300:Int)<(more.length:Int):=by omega
    clear h4
    go_wp2_with fail
    exact⟨B1.out,.inl ⟨rfl,rfl⟩⟩
   ·have i4:¬(300:Int)<(more.length:Int):=by omega
    have H4:Hid (more.length≤300):=Lib.hid (by omega)
    clear h4
    have VE:=Lib.hid (validT_any w1 a c L ch (S.out.reads (Reads.below B1.out)) HL.out)
    go_wp2_with fail
    refine VE.out.mono ?_
    rintro e w2 ⟨rfl,hb⟩
    have B2:=Lib.hid (B1.out.trans (hb.mono B1.out.size))
    clear VE hb
    cases hv:validT ch L with
    |false=>
     clear hv
     go_wp2_with fail
     exact⟨B2.out,.inl ⟨rfl,rfl⟩⟩
    |true=>
     have HV:=Lib.hid hv
     clear hv
     go_wp2_with fail
     exact⟨B2.out,.inr ⟨rfl,⟨⟨HG.out,H3.out,H4.out⟩,HV.out⟩,exh rfl⟩⟩
set_option maxRecDepth 100000 in
set_option maxHeartbeats 4000000 in
theorem wp9_1(u:World)(f:Nat→Value):
  (fstOf (d9 1)).wp Try.prog (QNd (Fr9 (fun g=>⟨#[.slice a L.length c,.int .i64 ch,.slice b chs.length d,.slice ea more.length ec,g 4,g 5,g 6,g 7,.bool false,.map (some u.heap.size),.map (some (u.heap.size+1)),g 11,g 12,g 13,g 14,g 15,g 16,g 17,g 18,g 19,g 20,g 21,g 22,g 23,g 24,g 25,g 26,g 27,g 28,g 29,g 30,g 31,g 32,g 33,g 34,g 35,g 36,g 37,g 38,g 39,g 40,g 41,g 42,g 43,g 44,g 45,g 46,g 47,g 48,g 49,g 50,g 51,g 52,g 53,g 54,g 55,g 56,g 57,g 58,g 59,g 60,g 61,g 62,g 63,g 64,g 65,g 66,g 67,g 68,g 69,g 70,g 71,g 72,g 73,g 74,g 75,g 76,g 77,g 78,g 79,g 80,g 81,g 82,g 83,g 84,g 85,g 86,g 87,g 88,g 89,g 90,g 91,g 92,g 93,g 94,g 95,g 96,g 97,g 98,g 99,g 100,g 101,g 102,g 103,g 104,g 105,g 106,g 107,g 108,g 109,g 110,g 111,g 112,g 113,g 114,g 115,g 116,g 117,g 118,g 119,g 120,g 121,g 122,g 123,g 124,g 125,g 126,g 127,g 128],[]⟩) fun u'=>u'=(u.alloc (.map #[] 0)).alloc (.map #[] 0))) ⟨#[.slice a L.length c,.int .i64 ch,.slice b chs.length d,.slice ea more.length ec,f 4,f 5,f 6,f 7,.bool false,f 9,f 10,f 11,f 12,f 13,f 14,f 15,f 16,f 17,f 18,f 19,f 20,f 21,f 22,f 23,f 24,f 25,f 26,f 27,f 28,f 29,f 30,f 31,f 32,f 33,f 34,f 35,f 36,f 37,f 38,f 39,f 40,f 41,f 42,f 43,f 44,f 45,f 46,f 47,f 48,f 49,f 50,f 51,f 52,f 53,f 54,f 55,f 56,f 57,f 58,f 59,f 60,f 61,f 62,f 63,f 64,f 65,f 66,f 67,f 68,f 69,f 70,f 71,f 72,f 73,f 74,f 75,f 76,f 77,f 78,f 79,f 80,f 81,f 82,f 83,f 84,f 85,f 86,f 87,f 88,f 89,f 90,f 91,f 92,f 93,f 94,f 95,f 96,f 97,f 98,f 99,f 100,f 101,f 102,f 103,f 104,f 105,f 106,f 107,f 108,f 109,f 110,f 111,f 112,f 113,f 114,f 115,f 116,f 117,f 118,f 119,f 120,f 121,f 122,f 123,f 124,f 125,f 126,f 127,f 128],[]⟩ u:=by
 have hmk:∀w:World,(Instr.makeMap 58 none).run Try.prog w= .ok (.map (some w.heap.size)) (w.alloc (.map #[] 0)):=fun _=>rfl
 have hsz:(u.alloc (.map #[] 0)).heap.size=u.heap.size+1:=by simp
 unfold d9 d9 b9
 conv in Option.getD _ _=>whnf
 dsimp only[fstOf,sndOf]
 go_wp2_with fail
 exact⟨exh rfl,rfl⟩
theorem ext_turn{W u u':World}{T:Nat→Prop}(e:Ext W u)(U:Upd T u u')(h:∀k,T k→W.heap.size≤k):Ext W u':=
 ⟨Nat.le_trans e.size U.size,fun b o hb=>by
  have hb1:=(Array.getElem?_eq_some_iff.1 hb).1
  have h2:=e.all b o hb
  rw[U.block b (Array.getElem?_eq_some_iff.1 h2).1 fun hs=>by have:=h b hs;omega]
  exact h2,U.os.trans e.os,U.output.trans e.out⟩
def D1Rel(W:World)(L:List TkD)(p q:Nat)(k:Value)(wr:World):Prop:=
 ∃(i:Nat) (F1 F2:Int→Option Nat) (n1 n2:Nat),i≤L.length∧k= .int .i64 (i:Int)∧Ext W wr∧MpAt wr p n1 F1∧MpAt wr q n2 F2∧(n1≤30*i∧n2≤30*i)∧ScI L i 0 F1 F2
def D2Rel(W:World)(L:List TkD)(p q i m:Nat)(k:Value)(wr:World):Prop:=
 ∃(j:Nat) (F1 F2:Int→Option Nat) (n1 n2:Nat),j≤m∧k= .int .i64 (j:Int)∧Ext W wr∧MpAt wr p n1 F1∧MpAt wr q n2 F2∧(n1≤30*i+j∧n2≤30*i+j)∧ScI L i j F1 F2
set_option maxRecDepth 100000 in
set_option maxHeartbeats 8000000 in
theorem wp9_2(W u:World)(f:Nat→Value)(p q:Nat)(hs:SlT W a L)(hW:Ext W u)(hp:W.heap.size≤p)(hq:W.heap.size≤q)(hpq:p≠q)(hM1:MpAt u p 0 fun _=>none)(hM2:MpAt u q 0 fun _=>none)(hv:validT ch L=true):
  (fstOf (d9 2)).wp Try.prog (GdX 8 W (NoRace L) fun a'=>∃g:Nat→Value,a'=⟨#[.slice a L.length c,.int .i64 ch,.slice b chs.length d,.slice ea more.length ec,g 4,g 5,g 6,g 7,g 8,g 9,g 10,g 11,g 12,g 13,g 14,g 15,g 16,g 17,g 18,g 19,g 20,g 21,g 22,g 23,g 24,g 25,g 26,g 27,g 28,g 29,g 30,g 31,g 32,g 33,g 34,g 35,g 36,g 37,g 38,g 39,g 40,g 41,g 42,g 43,g 44,g 45,g 46,g 47,g 48,g 49,g 50,g 51,g 52,g 53,g 54,g 55,g 56,g 57,g 58,g 59,g 60,g 61,g 62,g 63,g 64,g 65,g 66,g 67,g 68,g 69,g 70,g 71,g 72,g 73,g 74,g 75,g 76,g 77,g 78,g 79,g 80,g 81,g 82,g 83,g 84,g 85,g 86,g 87,g 88,g 89,g 90,g 91,g 92,g 93,g 94,g 95,g 96,g 97,g 98,g 99,g 100,g 101,g 102,g 103,g 104,g 105,g 106,g 107,g 108,g 109,g 110,g 111,g 112,g 113,g 114,g 115,g 116,g 117,g 118,g 119,g 120,g 121,g 122,g 123,g 124,g 125,g 126,g 127,g 128],[]⟩) ⟨#[.slice a L.length c,.int .i64 ch,.slice b chs.length d,.slice ea more.length ec,f 4,f 5,f 6,f 7,.bool false,.map (some p),.map (some q),f 11,f 12,f 13,f 14,f 15,f 16,f 17,f 18,f 19,f 20,f 21,f 22,f 23,f 24,f 25,f 26,f 27,f 28,f 29,f 30,f 31,f 32,f 33,f 34,f 35,f 36,f 37,f 38,f 39,f 40,f 41,f 42,f 43,f 44,f 45,f 46,f 47,f 48,f 49,f 50,f 51,f 52,f 53,f 54,f 55,f 56,f 57,f 58,f 59,f 60,f 61,f 62,f 63,f 64,f 65,f 66,f 67,f 68,f 69,f 70,f 71,f 72,f 73,f 74,f 75,f 76,f 77,f 78,f 79,f 80,f 81,f 82,f 83,f 84,f 85,f 86,f 87,f 88,f 89,f 90,f 91,f 92,f 93,f 94,f 95,f 96,f 97,f 98,f 99,f 100,f 101,f 102,f 103,f 104,f 105,f 106,f 107,f 108,f 109,f 110,f 111,f 112,f 113,f 114,f 115,f 116,f 117,f 118,f 119,f 120,f 121,f 122,f 123,f 124,f 125,f 126,f 127,f 128],[]⟩ u:=by
 have S:=Lib.hid hs
 have DV:=Lib.hid (det_valid hv)
 have E0:=Lib.hid hW
 have M1:=Lib.hid hM1;have M2:=Lib.hid hM2
 have PQ:=Lib.hid hpq
 have HP:=Lib.hid hp;have HQ:=Lib.hid hq
 have hl8:=DV.out.1
 clear hs hW hp hq hpq hM1 hM2 hv
 unfold d9 d9 d9 b9
 conv in Option.getD _ _=>whnf
 dsimp only[fstOf,sndOf]
 go_wp2_with fail
 go_loopw [46] (fun k wr=>D1Rel W L p q k wr) (fun k _=>L.length-(intOf k).toNat)
 case atStart=>exact⟨0,_,_,0,0,Nat.zero_le _,rfl,E0.out,M1.out,M2.out,⟨Nat.zero_le _,Nat.zero_le _⟩,.start⟩
 case round=>
  obtain⟨i,F1,F2,n1,n2,hi,rfl,hE,hA,hB,hn,hI⟩:=hrel
  have E1:=Lib.hid hE;have A1:=Lib.hid hA;have B1:=Lib.hid hB;have NN:=Lib.hid hn;have SI:=Lib.hid hI
  clear hE hA hB hn hI
  by_cases hlt:i<L.length
  ·have hin:(i:Int)<(L.length:Int):=by omega
   obtain⟨t,ht,okt,ct,TO⟩:=(slT_ext S.out E1.out).get (k:=i) hlt
   have TR:Hid (SlOp W t.a t.ops):=Lib.hid (S.out i t ht.out).2.2.row
   have TV:=Lib.hid (DV.out.2 i t ht.out)
   have tl:=TV.out.1
   clear TO
   go_wp2_with fail
   go_loopw [53] (fun k wx=>D2Rel W L p q i t.ops.length k wx) (fun k _=>t.ops.length-(intOf k).toNat)
   case atStart=>exact⟨0,_,_,n1,n2,Nat.zero_le _,rfl,E1.out,A1.out,B1.out,by have:=NN.out;omega,SI.out⟩
   case round=>
    obtain⟨j,G1,G2,m1,m2,hj,rfl,hE,hA,hB,hn,hI⟩:=hrel
    have E2:=Lib.hid hE;have A2:=Lib.hid hA;have B2:=Lib.hid hB;have N2:=Lib.hid hn;have S2:=Lib.hid hI
    clear hE hA hB hn hI
    by_cases hjl:j<t.ops.length
    ·have hjn:(j:Int)<(t.ops.length:Int):=by omega
     obtain⟨o,ho,oko,y0,y1,y2,y3⟩:=(TR.out.reads fun p v h=>E2.out.cell h).get (k:=j) hjl
     have OV:=Lib.hid (TV.out.2 j o ho.out)
     have EL:=Lib.hid (E2.out.trans (Ext.below ((Below.refl wr.heap.size wr).alloc (Nat.le_refl _) (.cells #[.int .i64 o.kind,.int .i64 o.chan,.int .i64 o.val,.slice o.ea o.el.length o.ec] 29))))
     rcases OV.out.1 with h1|h2|h3|h4
     ·have b3:(o.kind==3)=false:=by simp[h1]
      have b4:(o.kind==4)=false:=by simp[h1]
      have b2:(o.kind==2)=false:=by simp[h1]
      have c0:=(OV.out.2 (.inl h1))
      have hk1:=Lib.hid h1
      clear h1
      obtain⟨c0,c1⟩:=c0
      have AL:=Lib.hid ((A2.out.below ((Below.refl _ _).alloc (Nat.le_refl _) (.cells #[.int .i64 o.kind,.int .i64 o.chan,.int .i64 o.val,.slice o.ea o.el.length o.ec] 29))))
      have AO:=Lib.hid ((B2.out.below ((Below.refl _ _).alloc (Nat.le_refl _) (.cells #[.int .i64 o.kind,.int .i64 o.chan,.int .i64 o.val,.slice o.ea o.el.length o.ec] 29))))
      have EL:=Lib.hid (E2.out.trans (Ext.below ((Below.refl wr.heap.size wr).alloc (Nat.le_refl _) (.cells #[.int .i64 o.kind,.int .i64 o.chan,.int .i64 o.val,.slice o.ea o.el.length o.ec] 29))))
      have LK:=AL.out.look (c:=o.chan) c0 (by omega)
      obtain⟨w',hst,hA',hU⟩:=AL.out.store (by have:=N2.out;unfold maxLen;omega) (c:=o.chan) c0 (by omega) (x:=i) (by omega)
      have A3:=Lib.hid hA'
      have O3:=Lib.hid (AO.out.upd hU (by have:=PQ.out;simpa using Ne.symm PQ.out))
      have E3:=Lib.hid (ext_turn EL.out hU fun k e=>by have:=HP.out;omega)
      clear hA' hU AL AO EL
      cases hG:G1 o.chan with
      |none=>
       have SN:=Lib.hid (S2.out.snd ht.out ho.out hk1.out (.inl hG))
       have e1:mpV G1 o.chan=0:=by simp[mpV,hG]
       rw[hG,e1] at LK
       simp only[Option.isSome_none] at LK
       clear hG e1
       go_wp2_with fail
       go_roundw
       case rel=>exact⟨j+1,mpPut G1 o.chan i,G2,m1+1,m2,by omega,by go_num,E3.out,A3.out,O3.out,by have:=N2.out;omega,SN.out⟩
       case measure=>(simp[intOf];omega)
      |some x=>
       have e1:mpV G1 o.chan=(x:Int):=by simp[mpV,hG]
       rw[hG,e1] at LK
       simp only[Option.isSome_some] at LK
       clear e1
       by_cases hxi:x=i
       ·subst hxi
        have SN:=Lib.hid (S2.out.snd ht.out ho.out hk1.out (.inr hG))
        have bx:((x:Int)!=(x:Int))=false:=by simp
        clear hG
        go_wp2_with fail
        go_roundw
        case rel=>exact⟨j+1,mpPut G1 o.chan x,G2,m1+1,m2,by omega,by go_num,E3.out,A3.out,O3.out,by have:=N2.out;omega,SN.out⟩
        case measure=>(simp[intOf];omega)
       ·have bx:((x:Int)!=(i:Int))=true:=by simp;omega
        have EL:=Lib.hid (E2.out.trans (Ext.below ((Below.refl wr.heap.size wr).alloc (Nat.le_refl _) (.cells #[.int .i64 o.kind,.int .i64 o.chan,.int .i64 o.val,.slice o.ea o.el.length o.ec] 29))))
        clear hG hxi
        go_wp2_with fail
        exact⟨EL.out,.inl ⟨rfl,rfl⟩⟩
     ·have b3:(o.kind==3)=false:=by simp[h2]
      have b4:(o.kind==4)=false:=by simp[h2]
      have b2:(o.kind==2)=true:=by simp[h2]
      have c0:=(OV.out.2 (.inr h2))
      have hk2:=Lib.hid h2
      clear h2
      obtain⟨c0,c1⟩:=c0
      have AL:=Lib.hid ((B2.out.below ((Below.refl _ _).alloc (Nat.le_refl _) (.cells #[.int .i64 o.kind,.int .i64 o.chan,.int .i64 o.val,.slice o.ea o.el.length o.ec] 29))))
      have AO:=Lib.hid ((A2.out.below ((Below.refl _ _).alloc (Nat.le_refl _) (.cells #[.int .i64 o.kind,.int .i64 o.chan,.int .i64 o.val,.slice o.ea o.el.length o.ec] 29))))
      have EL:=Lib.hid (E2.out.trans (Ext.below ((Below.refl wr.heap.size wr).alloc (Nat.le_refl _) (.cells #[.int .i64 o.kind,.int .i64 o.chan,.int .i64 o.val,.slice o.ea o.el.length o.ec] 29))))
      have LK:=AL.out.look (c:=o.chan) c0 (by omega)
      obtain⟨w',hst,hA',hU⟩:=AL.out.store (by have:=N2.out;unfold maxLen;omega) (c:=o.chan) c0 (by omega) (x:=i) (by omega)
      have A3:=Lib.hid hA'
      have O3:=Lib.hid (AO.out.upd hU (by have:=PQ.out;simpa using PQ.out))
      have E3:=Lib.hid (ext_turn EL.out hU fun k e=>by have:=HQ.out;omega)
      clear hA' hU AL AO EL
      cases hG:G2 o.chan with
      |none=>
       have SN:=Lib.hid (S2.out.rcv ht.out ho.out hk2.out (.inl hG))
       have e1:mpV G2 o.chan=0:=by simp[mpV,hG]
       rw[hG,e1] at LK
       simp only[Option.isSome_none] at LK
       clear hG e1
       go_wp2_with fail
       go_roundw
       case rel=>exact⟨j+1,G1,mpPut G2 o.chan i,m1,m2+1,by omega,by go_num,E3.out,O3.out,A3.out,by have:=N2.out;omega,SN.out⟩
       case measure=>(simp[intOf];omega)
      |some x=>
       have e1:mpV G2 o.chan=(x:Int):=by simp[mpV,hG]
       rw[hG,e1] at LK
       simp only[Option.isSome_some] at LK
       clear e1
       by_cases hxi:x=i
       ·subst hxi
        have SN:=Lib.hid (S2.out.rcv ht.out ho.out hk2.out (.inr hG))
        have bx:((x:Int)!=(x:Int))=false:=by simp
        clear hG
        go_wp2_with fail
        go_roundw
        case rel=>exact⟨j+1,G1,mpPut G2 o.chan x,m1,m2+1,by omega,by go_num,E3.out,O3.out,A3.out,by have:=N2.out;omega,SN.out⟩
        case measure=>(simp[intOf];omega)
       ·have bx:((x:Int)!=(i:Int))=true:=by simp;omega
        have EL:=Lib.hid (E2.out.trans (Ext.below ((Below.refl wr.heap.size wr).alloc (Nat.le_refl _) (.cells #[.int .i64 o.kind,.int .i64 o.chan,.int .i64 o.val,.slice o.ea o.el.length o.ec] 29))))
        clear hG hxi
        go_wp2_with fail
        exact⟨EL.out,.inl ⟨rfl,rfl⟩⟩
     ·have b3:(o.kind==3)=true:=by simp[h3]
      clear h3
      go_wp2_with fail
      exact⟨EL.out,.inl ⟨rfl,rfl⟩⟩
     ·have b3:(o.kind==3)=false:=by simp[h4]
      have b4:(o.kind==4)=true:=by simp[h4]
      have AL:=Lib.hid ((A2.out.below ((Below.refl _ _).alloc (Nat.le_refl _) (.cells #[.int .i64 o.kind,.int .i64 o.chan,.int .i64 o.val,.slice o.ea o.el.length o.ec] 29))))
      have AO:=Lib.hid ((B2.out.below ((Below.refl _ _).alloc (Nat.le_refl _) (.cells #[.int .i64 o.kind,.int .i64 o.chan,.int .i64 o.val,.slice o.ea o.el.length o.ec] 29))))
      have SN:=Lib.hid (S2.out.add ht.out ho.out h4)
      clear h4
      go_wp2_with fail
      go_roundw
      case rel=>exact⟨j+1,G1,G2,m1,m2,by omega,by go_num,EL.out,AL.out,AO.out,by have:=N2.out;omega,SN.out⟩
      case measure=>(simp[intOf];omega)
    ·have hjn:¬(j:Int)<(t.ops.length:Int):=by omega
     have hje:j=t.ops.length:=by omega
     have SR:=Lib.hid (S2.out.row ht.out (by omega))
     go_wp2_with fail
     go_roundw
     case rel=>exact⟨i+1,G1,G2,m1,m2,by omega,by go_num,E2.out,A2.out,B2.out,by have:=N2.out;omega,SR.out⟩
     case measure=>(simp[intOf];omega)
  ·have hie:i=L.length:=by omega
   have hin:¬(i:Int)<(L.length:Int):=by omega
   have ND:Hid (NoRace L):=Lib.hid (ScI.done (by have:=SI.out;rwa[hie] at this))
   go_wp2_with fail
   exact⟨E1.out,.inr ⟨rfl,ND.out,exh rfl⟩⟩
set_option maxRecDepth 100000 in
set_option maxHeartbeats 4000000 in
theorem wp9_3(u:World)(f:Nat→Value)(a0 a1 a2:Option Addr)(n0 n1 n2 k0 k1 k2:Nat):
  ItemsWp Try.prog [.inRegion opsX [4,5,6,7,8,9]] (QNd (Fr9 (fun g=>⟨#[.slice a L.length c,.int .i64 ch,.slice b chs.length d,.slice ea more.length ec,g 4,g 5,g 6,g 7,g 8,g 9,g 10,g 11,g 12,g 13,g 14,g 15,g 16,g 17,.pointer (some ⟨u.heap.size,0,none⟩),.int .i64 0,g 20,g 21,g 22,g 23,g 24,g 25,g 26,g 27,g 28,g 29,g 30,g 31,g 32,g 33,g 34,g 35,g 36,g 37,g 38,g 39,g 40,g 41,g 42,g 43,g 44,g 45,g 46,g 47,g 48,g 49,g 50,g 51,g 52,g 53,g 54,g 55,g 56,g 57,g 58,g 59,g 60,g 61,g 62,g 63,g 64,g 65,g 66,g 67,g 68,g 69,g 70,g 71,g 72,g 73,g 74,g 75,g 76,g 77,g 78,g 79,g 80,g 81,g 82,g 83,g 84,g 85,g 86,g 87,g 88,g 89,g 90,g 91,g 92,g 93,g 94,g 95,g 96,g 97,g 98,g 99,g 100,g 101,g 102,g 103,g 104,g 105,g 106,g 107,g 108,g 109,g 110,g 111,g 112,g 113,g 114,g 115,g 116,g 117,g 118,g 119,g 120,g 121,g 122,g 123,g 124,g 125,g 126,g 127,g 128],[]⟩) fun u'=>u'=u.alloc (.cells #[.slice a0 n0 k0,.slice a1 n1 k1,.slice a2 n2 k2] 32)))
   ⟨#[.slice a L.length c,.int .i64 ch,.slice b chs.length d,.slice ea more.length ec,f 4,f 5,f 6,f 7,f 8,f 9,f 10,f 11,f 12,f 13,f 14,f 15,f 16,f 17,f 18,f 19,f 20,f 21,f 22,f 23,f 24,f 25,f 26,f 27,f 28,f 29,f 30,f 31,f 32,f 33,f 34,f 35,f 36,f 37,f 38,f 39,f 40,f 41,f 42,f 43,f 44,f 45,f 46,f 47,f 48,f 49,f 50,f 51,f 52,f 53,f 54,f 55,f 56,f 57,f 58,f 59,f 60,f 61,f 62,f 63,f 64,f 65,f 66,f 67,f 68,f 69,f 70,f 71,f 72,f 73,f 74,f 75,f 76,f 77,f 78,f 79,f 80,f 81,f 82,f 83,f 84,f 85,f 86,f 87,f 88,f 89,.tuple #[.agg #[.slice a0 n0 k0,.slice a1 n1 k1,.slice a2 n2 k2],.int .i64 0],f 91,f 92,f 93,f 94,f 95,f 96,f 97,f 98,f 99,f 100,f 101,f 102,f 103,f 104,f 105,f 106,f 107,f 108,f 109,f 110,f 111,f 112,f 113,f 114,f 115,f 116,f 117,f 118,f 119,f 120,f 121,f 122,f 123,f 124,f 125,f 126,f 127,f 128],[]⟩ u:=by
 refine ItemsWp.tail (k:=4) (l:=opsX.toList.drop 4) rfl rfl ?_
 conv in(occs:= *) opsX=>
  all_goals
   unfold opsX opsR d9 d9 d9 d9 b9
   whnf
 simp only[List.drop_succ_cons,List.drop_zero]
 go_wp2_with fail
 exact⟨exh rfl,rfl⟩
set_option maxRecDepth 100000 in
set_option maxHeartbeats 4000000 in
theorem wp9_4(u:World)(f:Nat→Value)(p:Nat)(v0 v1 v2 w0 w1 w2:Value)(S T:List StepP)(s t:List Int)(hp:Blk u p 32 [v0,v1,v2])(hv:RunRes u v0 v1 v2 S s t)(hw:RunRes u w0 w1 w2 T s t)(hST:S.length=T.length)(l1:s.length≤1000)(l2:t.length≤1000):
  ItemsWp Try.prog [.inRegion opsY [4,5,6,7,8,9],.code (d9 5)] (FinN 8 u) ⟨#[.slice a L.length c,.int .i64 ch,.slice b chs.length d,.slice ea more.length ec,f 4,f 5,f 6,f 7,f 8,f 9,f 10,f 11,f 12,f 13,f 14,f 15,f 16,f 17,.pointer (some ⟨p,0,none⟩),.int .i64 0,f 20,f 21,f 22,f 23,f 24,f 25,f 26,f 27,f 28,f 29,f 30,f 31,f 32,f 33,f 34,f 35,f 36,f 37,f 38,f 39,f 40,f 41,f 42,f 43,f 44,f 45,f 46,f 47,f 48,f 49,f 50,f 51,f 52,f 53,f 54,f 55,f 56,f 57,f 58,f 59,f 60,f 61,f 62,f 63,f 64,f 65,f 66,f 67,f 68,f 69,f 70,f 71,f 72,f 73,f 74,f 75,f 76,f 77,f 78,f 79,f 80,f 81,f 82,f 83,f 84,f 85,f 86,f 87,f 88,f 89,f 90,f 91,f 92,f 93,f 94,f 95,f 96,.tuple #[.agg #[w0,w1,w2],.int .i64 0],f 98,f 99,f 100,f 101,f 102,f 103,f 104,f 105,f 106,f 107,f 108,f 109,f 110,f 111,f 112,f 113,f 114,f 115,f 116,f 117,f 118,f 119,f 120,f 121,f 122,f 123,f 124,f 125,f 126,f 127,f 128],[]⟩ u:=by
 obtain⟨⟨a0,k0,rfl,r0⟩,⟨a1,k1,rfl,r1⟩,⟨a2,k2,rfl,r2⟩⟩:=hv
 obtain⟨⟨b0,m0,rfl,s0'⟩,⟨b1,m1,rfl,s1⟩,⟨b2,m2,rfl,s2⟩⟩:=hw
 have E1:Hid (∀w,Below u.heap.size u w→Calls Try.prog 21 #[.slice a1 s.length k1,.slice b1 s.length m1] w fun e w'=>e= .returned (.bool true)∧Qt w w'):=Lib.hid fun w q=>by
  have h:=equalInt_any w a1 b1 k1 m1 s s (r1.reads (Reads.below q)) (s1.reads (Reads.below q)) (by unfold maxLen;omega)
  simpa only[decide_true] using h
 have E2:Hid (∀w,Below u.heap.size u w→Calls Try.prog 21 #[.slice a2 t.length k2,.slice b2 t.length m2] w fun e w'=>e= .returned (.bool true)∧Qt w w'):=Lib.hid fun w q=>by
  have h:=equalInt_any w a2 b2 k2 m2 t t (r2.reads (Reads.below q)) (s2.reads (Reads.below q)) (by unfold maxLen;omega)
  simpa only[decide_true] using h
 have HP:=Lib.hid hp
 rw[hST] at HP
 clear r0 r1 r2 s0' s1 s2 hp l1 l2 hST
 generalize T.length=n0 at*
 generalize s.length=n1 at*
 generalize t.length=n2 at*
 refine ItemsWp.then (k:=4) (l:=opsY.toList.drop 4) rfl rfl fun K hK=>?_
 conv in(occs:= *) opsY=>
  all_goals
   unfold opsY opsR d9 d9 d9 d9 d9 b9
   whnf
 unfold d9 d9 d9 d9 d9 d9 b9 at hK
 conv at hK in Option.getD _ _=>whnf
 dsimp only[sndOf,fstOf] at hK
 simp only[List.drop_succ_cons,List.drop_zero]
 obtain⟨W0,hW⟩:∃W0,W0=u.alloc (.cells #[.slice b0 n0 m0,.slice b1 n1 m1,.slice b2 n2 m2] 32):=⟨_,rfl⟩
 have NX:Hid (Blk W0 u.heap.size 32 [.slice b0 n0 m0,.slice b1 n1 m1,.slice b2 n2 m2]):=Lib.hid (by rw[hW];exact Blk.new u _ _)
 have B0:Hid (Below u.heap.size u W0):=Lib.hid (by rw[hW];exact(Below.refl _ _).alloc (Nat.le_refl _) _)
 have H0:=Lib.hid (HP.out.upd (S:=fun _=>False) (Upd.of_below B0.out) id)
 have C1:=Lib.hid (E1.out W0 B0.out)
 have y1:(u.alloc (.cells #[.slice b0 n0 m0,.slice b1 n1 m1,.slice b2 n2 m2] 32)).cell? ⟨p,1,none⟩=some (.slice a1 n1 k1):=by rw[←hW];exact H0.out.cell (i:=1) rfl
 have z1:(u.alloc (.cells #[.slice b0 n0 m0,.slice b1 n1 m1,.slice b2 n2 m2] 32)).cell? ⟨u.heap.size,1,none⟩=some (.slice b1 n1 m1):=by rw[←hW];exact NX.out.cell (i:=1) rfl
 clear E1 HP
 go_wp2_with fail
 rw[←hW]
 refine C1.out.mono ?_
 rintro e w6 ⟨rfl,hq⟩
 have B6:=Lib.hid (B0.out.trans (hq.below _))
 have H6:=Lib.hid (H0.out.upd (S:=fun _=>False) (Upd.of_below (hq.below _)) id)
 have N6:=Lib.hid (NX.out.upd (S:=fun _=>False) (Upd.of_below (hq.below _)) id)
 have C2:=Lib.hid (E2.out w6 B6.out)
 clear y1 z1 C1 H0 NX B0 hq E2 hW
 clear W0
 have y2:w6.cell? ⟨p,2,none⟩=some (.slice a2 n2 k2):=H6.out.cell (i:=2) rfl
 have z2:w6.cell? ⟨u.heap.size,2,none⟩=some (.slice b2 n2 m2):=N6.out.cell (i:=2) rfl
 go_wp2_with fail
 refine C2.out.mono ?_
 rintro e w7 ⟨rfl,hq⟩
 have B7:=Lib.hid (B6.out.trans (hq.below _))
 have y0:w7.cell? ⟨p,0,none⟩=some (.slice a0 n0 k0):=(H6.out.upd (S:=fun _=>False) (Upd.of_below (hq.below _)) id).cell (i:=0) rfl
 have z0:w7.cell? ⟨u.heap.size,0,none⟩=some (.slice b0 n0 m0):=(N6.out.upd (S:=fun _=>False) (Upd.of_below (hq.below _)) id).cell (i:=0) rfl
 clear y2 z2 C2 H6 N6 B6 hq
 go_wp2_with fail
 exact⟨rfl,B7.out⟩
end
end
end Go.Side
namespace Go.Proofs.Ytbjlijagheifgaa
section
open Go.RowKit Go.ChangeShapes Go.WideShapes Go.ChangeAt
open Go.ChangeMaps (open_string shut_string)
theorem Try.own:ownKnob Try.prog.godebug=none:=by kernel_rfl
theorem Try.laidOut:laidOutB Try.prog=true:=by kernel_rfl
section
variable {H:Type} {enc:TypeId×Value→H} {P:Program} {w:World} {held:Bool}
theorem sl_open{α:Type}[Inhabited α]{t e:TypeId}{fuel:Nat}{v:Value}{x:DataW H×List MemPlace}(f:α→Value)(Q:α→Prop)(ht:P.underlying t=some (.slice e))(hc:P.cellsOf e=1)(hf:∀n V r,DataW.trod enc P w 0 (fun _=>true) held n e [V]=some r→∃y,V=f y∧Q y)(h:DataW.trod enc P w 0 (fun _=>true) held fuel t [v]=some x):
  ∃a c xs,v= .slice a xs.length c∧Sl f w a xs∧(∀y∈xs,Q y)∧xs.length≤maxLen:=by
 rcases Deep.open_slice1 ht hc h with⟨h1,_⟩|⟨a,len,cap,m,n,V,D,Pl,h1,hb,hl,hm,hmm,_,hx⟩
 ·refine⟨none,0,[],by simpa using h1,?_,by simp,by simp⟩
  intro j x hj
  simp at hj
 ·simp only[if_true] at hmm
  subst hmm
  obtain⟨B,hB⟩:=Deep.choose_lt (α:=α) (n:=m) (p:=fun i y=>V i=f y∧Q y) (fun i hi=>hf _ _ _ (hx i hi).2)
  refine⟨some a,m,(List.range len).map B,by simpa using h1,?_,?_,by simp;omega⟩
  ·intro j y hj
   simp only[List.getElem?_map] at hj
   obtain⟨i,hi,rfl⟩:=Option.map_eq_some_iff.1 hj
   have hlt:j<len:=by
    rcases Nat.lt_or_ge j len with h|h
    ·exact h
    ·rw[List.getElem?_eq_none (by simpa using h)] at hi;simp at hi
   rw[List.getElem?_range hlt] at hi
   obtain rfl:=Option.some.inj hi
   have hcell:=(hx j (by omega)).1
   have hsp:a.spot.isNone=true:=by
    have h0:=(hx 0 (by omega)).1
    have:a.spot=none:=by simpa[Addr.add] using World.cell?_spot h0
    simp[this]
   refine⟨hsp,?_⟩
   rw[←(hB j (by omega)).1,←hcell,add_eq a j hsp]
   rfl
  ·intro y hy
   obtain⟨i,hi,rfl⟩:=List.mem_map.1 hy
   exact(hB i (by have:=List.mem_range.1 hi;omega)).2
def IntOk(k:IntKind)(n:Int):Prop:=(Lit.int k n).wf=true
theorem ints_open{t e:TypeId}{k:IntKind}{v:Value}{d:DataW H}{ps:List MemPlace}(ht:P.underlying t=some (.slice e))(he:P.underlying e=some (.int k))(hc:P.cellsOf e=1)(h:DataW.Trod enc P w 0 (fun _=>true) held t v d ps)(hv:∃a n c,v= .slice a n c):
  ∃a c xs,v= .slice a xs.length c∧Sl (Value.int k) w a xs∧(∀y∈xs,IntOk k y)∧xs.length≤maxLen:=by
 obtain⟨fuel,hf⟩:=h
 obtain⟨a,n,c,rfl⟩:=hv
 refine sl_open (Value.int k) (IntOk k) ht hc (fun n V r hr=>?_) hf
 obtain⟨i,h1,_,h3⟩:=DataW.trod_int he hr
 exact⟨i,by simpa using h1,h3⟩
structure RowOf(α:Type) where
 a:Option Addr
 c:Nat
 xs:List α
instance {α:Type}:Inhabited (RowOf α):=⟨⟨none,0,[]⟩⟩
def RowOf.val{α:Type}(r:RowOf α):Value:=.slice r.a r.xs.length r.c
end
end
end Go.Proofs.Ytbjlijagheifgaa
