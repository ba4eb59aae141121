/-
  Texts of Ytbjlijagheifgaa, merged.
-/
import Derived.Test.YtbjlijagheifgaaC41
import Derived.Test.YtbjlijagheifgaaC38
import Derived.Test.YtbjlijagheifgaaC40
set_option linter.unusedSimpArgs false
set_option linter.unusedVariables false
namespace Go.Side
section
open Go Go.Conc Go.ConcN Go.Proofs Go.RowKit Go.Proofs.Ytbjlijagheifgaa
noncomputable def b10:Code:=Try.f10.body.getD .skip
noncomputable def ops10:Array Oper:=opsR (fstOf (fstOf (sndOf b10)))
noncomputable def d10:Nat→Code
 |0=>sndOf (sndOf b10)
 |k+1=>sndOf (d10 k)
noncomputable def thenOf:Code→Code
 | .cond _ x _=>x
 |c=>c
theorem b10_eq:b10= .seq (fstOf b10) (.seq (.seq (.region 1 ops10 false) (sndOf (fstOf (sndOf b10)))) (d10 0)):=by rfl
theorem d10_seq(k:Nat)(h:k<11):d10 k= .seq (fstOf (d10 k)) (d10 (k+1)):=by
 have:k=0∨k=1∨k=2∨k=3∨k=4∨k=5∨k=6∨k=7∨k=8∨k=9∨k=10:=by omega
 rcases this with rfl|rfl|rfl|rfl|rfl|rfl|rfl|rfl|rfl|rfl|rfl<;>rfl
noncomputable def opsA:Array Oper:=opsR (fstOf (d10 1))
noncomputable def opsB:Array Oper:=opsR (fstOf (d10 2))
noncomputable def x10:Code:=thenOf (sndOf (fstOf (d10 4)))
noncomputable def opsC:Array Oper:=opsR (fstOf x10)
noncomputable def opsD:Array Oper:=opsR (fstOf (d10 9))
noncomputable def opsE:Array Oper:=opsR (fstOf (d10 10))
theorem d10_1:fstOf (d10 1)= .region 5 opsA false:=by rfl
theorem d10_2:fstOf (d10 2)= .region 6 opsB false:=by rfl
theorem d10_4:fstOf (d10 4)= .seq (fstOf (fstOf (d10 4))) (.cond (.tmp 77) x10 .skip):=by rfl
theorem x10_eq:x10= .seq (.region 10 opsC false) (sndOf x10):=by rfl
theorem d10_9:fstOf (d10 9)= .region 18 opsD false:=by rfl
theorem d10_10:fstOf (d10 10)= .region 19 opsE false:=by rfl
theorem q10_0:([Item.code (fstOf b10)].all (itemPlain false none Try.prog lawFns))=true:=by kernel_rfl
theorem q10_1:([Item.inRegion ops10 [1],Item.code (sndOf (fstOf (sndOf b10)))].all (itemPlain false none Try.prog lawFns))=true:=by kernel_rfl
theorem p10_0:([Item.code (fstOf (d10 0))].all (itemPlain false none Try.prog lawFns))=true:=by kernel_rfl
theorem p10_1:([Item.inRegion opsA [4,5,6,7,8,9]].all (itemPlain false none Try.prog lawFns))=true:=by kernel_rfl
theorem p10_2:([Item.inRegion opsB [4,5,6,7,8,9]].all (itemPlain false none Try.prog lawFns))=true:=by kernel_rfl
theorem p10_3:([Item.code (fstOf (d10 3))].all (itemPlain false none Try.prog lawFns))=true:=by kernel_rfl
theorem p10_4:([Item.code (fstOf (fstOf (d10 4)))].all (itemPlain false none Try.prog lawFns))=true:=by kernel_rfl
theorem p10_5:([Item.inRegion opsC [11,12,13,14,15,16],Item.code (sndOf x10)].all (itemPlain false none Try.prog lawFns))=true:=by kernel_rfl
theorem p10_6:([Item.code (fstOf (d10 5))].all (itemPlain false none Try.prog lawFns))=true:=by kernel_rfl
theorem p10_7:([Item.code (fstOf (d10 6))].all (itemPlain false none Try.prog lawFns))=true:=by kernel_rfl
theorem p10_8:([Item.code (fstOf (d10 7))].all (itemPlain false none Try.prog lawFns))=true:=by kernel_rfl
theorem p10_9:([Item.code (fstOf (d10 8))].all (itemPlain false none Try.prog lawFns))=true:=by kernel_rfl
theorem p10_10:([Item.inRegion opsD [7,8,9,10,11,12]].all (itemPlain false none Try.prog lawFns))=true:=by kernel_rfl
theorem p10_11:([Item.inRegion opsE [11,12,13,14,15,16],Item.code (d10 11)].all (itemPlain false none Try.prog lawFns))=true:=by kernel_rfl
def QNc(R:Act→World→Prop):Exit→Act→World→Prop
 | .normal,a,w=>R a w
 |_,_,_=>False
def Fr1(nx:(Nat→Value)→Act)(p:World→Prop)(a':Act)(u':World):Prop:=(∃g,a'=nx g)∧p u'
def Fr2(nx:Option Addr→Nat→(Nat→Value)→Act)(p:Option Addr→World→Prop)(a':Act)(u':World):Prop:=∃e1 f1,(∃g,a'=nx e1 f1 g)∧p e1 u'
theorem exg{a:Act}{nx:(Nat→Value)→Act}(h:a=nx fun i=>a.tmps.getD i undef):∃f,a=nx f:=⟨_,h⟩
section
variable {a b ea:Option Addr} {c d ec fi:Nat} {L:List TkD} {ch:Int} {chs more:List Int}
set_option maxRecDepth 100000 in
set_option maxHeartbeats 4000000 in
theorem wq10_0(u:World)(f:Nat→Value):(fstOf b10).wp Try.prog (fun e a' u'=>e= .normal∧a'=⟨#[.slice a L.length c,.int .i64 ch,.slice b chs.length d,.slice ea more.length ec,.int .u8 (fi:Int),f 5,f 6,f 7,f 8,f 9,.bool false,f 11,f 12,f 13,f 14,f 15,f 16,f 17,f 18,f 19,f 20,f 21,f 22,f 23,f 24,f 25,f 26,f 27,f 28,f 29,f 30,f 31,f 32,f 33,f 34,f 35,f 36,f 37,f 38,f 39,f 40,f 41,f 42,f 43,f 44,f 45,f 46,f 47,f 48,f 49,f 50,f 51,f 52,f 53,f 54,f 55,f 56,f 57,f 58,f 59,f 60,f 61,f 62,f 63,f 64,f 65,f 66,f 67,f 68,f 69,f 70,f 71,f 72,f 73,f 74,f 75,f 76,f 77,f 78,f 79,f 80,f 81,f 82,f 83,f 84,f 85,f 86,f 87,f 88,f 89,f 90,f 91,f 92,f 93,f 94,f 95,f 96,f 97,f 98,f 99,f 100,f 101,f 102,f 103,f 104,f 105,f 106,f 107,f 108,f 109,f 110,f 111,f 112,f 113,f 114,f 115,f 116,f 117,f 118,f 119,f 120,f 121,f 122,f 123,f 124,f 125,f 126,f 127,f 128,f 129,f 130,f 131,f 132,f 133,f 134,f 135,f 136,f 137,f 138,f 139,f 140,f 141,f 142,f 143,f 144,f 145,f 146,f 147,f 148,f 149,f 150,f 151,f 152,f 153,f 154,f 155,f 156,f 157,f 158,f 159,f 160,f 161,f 162,f 163,f 164,f 165,f 166,f 167,f 168,f 169,f 170,f 171,f 172,f 173,f 174],[]⟩∧u'=u) ⟨#[.slice a L.length c,.int .i64 ch,.slice b chs.length d,.slice ea more.length ec,.int .u8 (fi:Int),f 5,f 6,f 7,f 8,f 9,f 10,f 11,f 12,f 13,f 14,f 15,f 16,f 17,f 18,f 19,f 20,f 21,f 22,f 23,f 24,f 25,f 26,f 27,f 28,f 29,f 30,f 31,f 32,f 33,f 34,f 35,f 36,f 37,f 38,f 39,f 40,f 41,f 42,f 43,f 44,f 45,f 46,f 47,f 48,f 49,f 50,f 51,f 52,f 53,f 54,f 55,f 56,f 57,f 58,f 59,f 60,f 61,f 62,f 63,f 64,f 65,f 66,f 67,f 68,f 69,f 70,f 71,f 72,f 73,f 74,f 75,f 76,f 77,f 78,f 79,f 80,f 81,f 82,f 83,f 84,f 85,f 86,f 87,f 88,f 89,f 90,f 91,f 92,f 93,f 94,f 95,f 96,f 97,f 98,f 99,f 100,f 101,f 102,f 103,f 104,f 105,f 106,f 107,f 108,f 109,f 110,f 111,f 112,f 113,f 114,f 115,f 116,f 117,f 118,f 119,f 120,f 121,f 122,f 123,f 124,f 125,f 126,f 127,f 128,f 129,f 130,f 131,f 132,f 133,f 134,f 135,f 136,f 137,f 138,f 139,f 140,f 141,f 142,f 143,f 144,f 145,f 146,f 147,f 148,f 149,f 150,f 151,f 152,f 153,f 154,f 155,f 156,f 157,f 158,f 159,f 160,f 161,f 162,f 163,f 164,f 165,f 166,f 167,f 168,f 169,f 170,f 171,f 172,f 173,f 174],[]⟩ u:=by
 unfold b10
 conv in Option.getD _ _=>whnf
 dsimp only[fstOf]
 go_wp2_with fail
set_option maxRecDepth 100000 in
set_option maxHeartbeats 4000000 in
theorem wq10_1(u:World)(f:Nat→Value):ItemsWp Try.prog [.inRegion ops10 [1],.code (sndOf (fstOf (sndOf b10)))] (fun e a' u'=>e= .normal∧a'=⟨#[.slice a L.length c,.int .i64 ch,.slice b chs.length d,.slice ea more.length ec,.int .u8 (fi:Int),f 5,f 6,f 7,f 8,f 9,.bool false,f 11,f 12,f 13,f 14,f 15,f 16,f 17,f 18,f 19,f 20,f 21,f 22,f 23,f 24,f 25,.bool true,.bool false,f 28,f 29,f 30,f 31,f 32,f 33,f 34,f 35,f 36,f 37,f 38,f 39,f 40,f 41,f 42,f 43,f 44,f 45,f 46,f 47,f 48,f 49,f 50,f 51,f 52,f 53,f 54,f 55,f 56,f 57,f 58,f 59,f 60,f 61,f 62,f 63,f 64,f 65,f 66,f 67,f 68,f 69,f 70,f 71,f 72,f 73,f 74,f 75,f 76,f 77,f 78,f 79,f 80,f 81,f 82,f 83,f 84,f 85,f 86,f 87,f 88,f 89,f 90,f 91,f 92,f 93,f 94,f 95,f 96,f 97,f 98,f 99,f 100,f 101,f 102,f 103,f 104,f 105,f 106,f 107,f 108,f 109,f 110,f 111,f 112,f 113,f 114,f 115,f 116,f 117,f 118,f 119,f 120,f 121,f 122,f 123,f 124,f 125,f 126,f 127,f 128,f 129,f 130,f 131,f 132,f 133,f 134,f 135,f 136,f 137,f 138,f 139,f 140,f 141,f 142,f 143,f 144,f 145,f 146,f 147,f 148,f 149,f 150,f 151,f 152,f 153,f 154,f 155,f 156,f 157,f 158,f 159,f 160,f 161,f 162,f 163,f 164,f 165,f 166,f 167,f 168,f 169,f 170,f 171,f 172,f 173,f 174],[]⟩∧u'=u) ⟨#[.slice a L.length c,.int .i64 ch,.slice b chs.length d,.slice ea more.length ec,.int .u8 (fi:Int),f 5,f 6,f 7,f 8,f 9,.bool false,f 11,f 12,f 13,f 14,f 15,f 16,f 17,f 18,f 19,f 20,f 21,f 22,f 23,f 24,f 25,.bool true,f 27,f 28,f 29,f 30,f 31,f 32,f 33,f 34,f 35,f 36,f 37,f 38,f 39,f 40,f 41,f 42,f 43,f 44,f 45,f 46,f 47,f 48,f 49,f 50,f 51,f 52,f 53,f 54,f 55,f 56,f 57,f 58,f 59,f 60,f 61,f 62,f 63,f 64,f 65,f 66,f 67,f 68,f 69,f 70,f 71,f 72,f 73,f 74,f 75,f 76,f 77,f 78,f 79,f 80,f 81,f 82,f 83,f 84,f 85,f 86,f 87,f 88,f 89,f 90,f 91,f 92,f 93,f 94,f 95,f 96,f 97,f 98,f 99,f 100,f 101,f 102,f 103,f 104,f 105,f 106,f 107,f 108,f 109,f 110,f 111,f 112,f 113,f 114,f 115,f 116,f 117,f 118,f 119,f 120,f 121,f 122,f 123,f 124,f 125,f 126,f 127,f 128,f 129,f 130,f 131,f 132,f 133,f 134,f 135,f 136,f 137,f 138,f 139,f 140,f 141,f 142,f 143,f 144,f 145,f 146,f 147,f 148,f 149,f 150,f 151,f 152,f 153,f 154,f 155,f 156,f 157,f 158,f 159,f 160,f 161,f 162,f 163,f 164,f 165,f 166,f 167,f 168,f 169,f 170,f 171,f 172,f 173,f 174],[]⟩ u:=by
 refine ItemsWp.then (k:=1) (l:=ops10.toList.drop 1) rfl rfl fun K hK=>?_
 conv in(occs:= *) ops10=>
  all_goals
   unfold ops10 opsR b10
   whnf
 unfold b10 at hK
 conv at hK in Option.getD _ _=>whnf
 dsimp only[sndOf,fstOf] at hK
 simp only[List.drop_succ_cons,List.drop_zero]
 go_wp2_with fail
set_option maxRecDepth 100000 in
set_option maxHeartbeats 4000000 in
theorem wp10_0(u:World)(f:Nat→Value)(hs:SlT u a L)(hl:L.length≤maxLen)(hl2:chs.length≤maxLen)(hl3:more.length≤maxLen):
  (fstOf (d10 0)).wp Try.prog (GdQ 10 u ((greatB L=false∧chs.length≤300∧more.length≤300)∧validT ch L=true) fun a'=>∃g:Nat→Value,a'=⟨#[.slice a L.length c,.int .i64 ch,.slice b chs.length d,.slice ea more.length ec,.int .u8 (fi:Int),g 5,g 6,g 7,g 8,g 9,.bool false,g 11,g 12,g 13,g 14,g 15,g 16,g 17,g 18,g 19,g 20,g 21,g 22,g 23,g 24,g 25,g 26,g 27,g 28,g 29,g 30,g 31,g 32,g 33,g 34,g 35,g 36,g 37,g 38,g 39,g 40,g 41,g 42,g 43,g 44,g 45,g 46,g 47,g 48,g 49,g 50,g 51,g 52,g 53,g 54,g 55,g 56,g 57,g 58,g 59,g 60,g 61,g 62,g 63,g 64,g 65,g 66,g 67,g 68,g 69,g 70,g 71,g 72,g 73,g 74,g 75,g 76,g 77,g 78,g 79,g 80,g 81,g 82,g 83,g 84,g 85,g 86,g 87,g 88,g 89,g 90,g 91,g 92,g 93,g 94,g 95,g 96,g 97,g 98,g 99,g 100,g 101,g 102,g 103,g 104,g 105,g 106,g 107,g 108,g 109,g 110,g 111,g 112,g 113,g 114,g 115,g 116,g 117,g 118,g 119,g 120,g 121,g 122,g 123,g 124,g 125,g 126,g 127,g 128,g 129,g 130,g 131,g 132,g 133,g 134,g 135,g 136,g 137,g 138,g 139,g 140,g 141,g 142,g 143,g 144,g 145,g 146,g 147,g 148,g 149,g 150,g 151,g 152,g 153,g 154,g 155,g 156,g 157,g 158,g 159,g 160,g 161,g 162,g 163,g 164,g 165,g 166,g 167,g 168,g 169,g 170,g 171,g 172,g 173,g 174],[]⟩) ⟨#[.slice a L.length c,.int .i64 ch,.slice b chs.length d,.slice ea more.length ec,.int .u8 (fi:Int),f 5,f 6,f 7,f 8,f 9,.bool false,f 11,f 12,f 13,f 14,f 15,f 16,f 17,f 18,f 19,f 20,f 21,f 22,f 23,f 24,f 25,f 26,f 27,f 28,f 29,f 30,f 31,f 32,f 33,f 34,f 35,f 36,f 37,f 38,f 39,f 40,f 41,f 42,f 43,f 44,f 45,f 46,f 47,f 48,f 49,f 50,f 51,f 52,f 53,f 54,f 55,f 56,f 57,f 58,f 59,f 60,f 61,f 62,f 63,f 64,f 65,f 66,f 67,f 68,f 69,f 70,f 71,f 72,f 73,f 74,f 75,f 76,f 77,f 78,f 79,f 80,f 81,f 82,f 83,f 84,f 85,f 86,f 87,f 88,f 89,f 90,f 91,f 92,f 93,f 94,f 95,f 96,f 97,f 98,f 99,f 100,f 101,f 102,f 103,f 104,f 105,f 106,f 107,f 108,f 109,f 110,f 111,f 112,f 113,f 114,f 115,f 116,f 117,f 118,f 119,f 120,f 121,f 122,f 123,f 124,f 125,f 126,f 127,f 128,f 129,f 130,f 131,f 132,f 133,f 134,f 135,f 136,f 137,f 138,f 139,f 140,f 141,f 142,f 143,f 144,f 145,f 146,f 147,f 148,f 149,f 150,f 151,f 152,f 153,f 154,f 155,f 156,f 157,f 158,f 159,f 160,f 161,f 162,f 163,f 164,f 165,f 166,f 167,f 168,f 169,f 170,f 171,f 172,f 173,f 174],[]⟩ u:=by
 have G:=Lib.hid (great_any u a c L hs hl)
 have S:=Lib.hid hs
 clear hs
 have HL:=Lib.hid hl
 unfold maxLen at hl hl2 hl3
 unfold d10 b10
 conv in Option.getD _ _=>whnf
 dsimp only[fstOf,sndOf]
 go_wp2_with fail
 refine G.out.mono ?_
 rintro e w1 ⟨rfl,hb⟩
 have B1:=Lib.hid hb
 clear G hb
 cases hg:greatB L with
 |true=>
  clear hg
  go_wp2_with fail
  exact⟨B1.out,.inl ⟨rfl,rfl⟩⟩
 |false=>
  have HG:=Lib.hid hg
  clear hg
  by_cases h3:300<chs.length
  ·have i3:(300:Int)<(chs.length:Int):=by omega
   clear h3
   go_wp2_with fail
   exact⟨B1.out,.inl ⟨rfl,rfl⟩⟩
  ·have i3:¬(300:Int)<(chs.length:Int):=by omega
   have H3:Hid (chs.length≤300):=Lib.hid (by omega)
   clear h3
   by_cases h4:300<more.length
   ·have i4:(300:Int)<(more.length:Int):=by omega
    clear h4
    go_wp2_with fail
    exact⟨B1.out,.inl ⟨rfl,rfl⟩⟩
   ·have i4:¬(300:Int)<(more.length:Int):=by omega
    have H4:Hid (more.length≤300):=Lib.hid (by omega)
    clear h4
    have VE:=Lib.hid (validT_any w1 a c L ch (S.out.reads (Reads.below B1.out)) HL.out)
    go_wp2_with fail
    refine VE.out.mono ?_
    rintro e w2 ⟨rfl,hb⟩
    have B2:=Lib.hid (B1.out.trans (hb.mono B1.out.size))
    clear VE hb
    cases hv:validT ch L with
    |false=>
     clear hv
     go_wp2_with fail
     exact⟨B2.out,.inl ⟨rfl,rfl⟩⟩
    |true=>
     have HV:=Lib.hid hv
     clear hv
     go_wp2_with fail
     exact⟨B2.out,.inr ⟨rfl,⟨⟨HG.out,H3.out,H4.out⟩,HV.out⟩,exg rfl⟩⟩
set_option maxRecDepth 100000 in
set_option maxHeartbeats 4000000 in
theorem wp10_1(u:World)(f:Nat→Value)(a0 a1 a2:Option Addr)(n0 n1 n2 k0 k1 k2:Nat):
  ItemsWp Try.prog [.inRegion opsA [4,5,6,7,8,9]] (QNc (Fr1 (fun g=>⟨#[.slice a L.length c,.int .i64 ch,.slice b chs.length d,.slice ea more.length ec,.int .u8 (fi:Int),g 5,g 6,g 7,g 8,g 9,.bool false,.pointer (some ⟨u.heap.size,0,none⟩),.int .i64 0,g 13,g 14,g 15,g 16,g 17,g 18,g 19,g 20,g 21,g 22,g 23,g 24,g 25,g 26,g 27,g 28,g 29,g 30,g 31,g 32,g 33,g 34,g 35,g 36,g 37,g 38,g 39,g 40,g 41,g 42,g 43,g 44,g 45,g 46,g 47,g 48,g 49,g 50,g 51,g 52,g 53,g 54,g 55,g 56,g 57,g 58,g 59,g 60,g 61,g 62,g 63,g 64,g 65,g 66,g 67,g 68,g 69,g 70,g 71,g 72,g 73,g 74,g 75,g 76,g 77,g 78,g 79,g 80,g 81,g 82,g 83,g 84,g 85,g 86,g 87,g 88,g 89,g 90,g 91,g 92,g 93,g 94,g 95,g 96,g 97,g 98,g 99,g 100,g 101,g 102,g 103,g 104,g 105,g 106,g 107,g 108,g 109,g 110,g 111,g 112,g 113,g 114,g 115,g 116,g 117,g 118,g 119,g 120,g 121,g 122,g 123,g 124,g 125,g 126,g 127,g 128,g 129,g 130,g 131,g 132,g 133,g 134,g 135,g 136,g 137,g 138,g 139,g 140,g 141,g 142,g 143,g 144,g 145,g 146,g 147,g 148,g 149,g 150,g 151,g 152,g 153,g 154,g 155,g 156,g 157,g 158,g 159,g 160,g 161,g 162,g 163,g 164,g 165,g 166,g 167,g 168,g 169,g 170,g 171,g 172,g 173,g 174],[]⟩) fun u'=>u'=u.alloc (.cells #[.slice a0 n0 k0,.slice a1 n1 k1,.slice a2 n2 k2] 32)))
   ⟨#[.slice a L.length c,.int .i64 ch,.slice b chs.length d,.slice ea more.length ec,.int .u8 (fi:Int),f 5,f 6,f 7,f 8,f 9,.bool false,f 11,f 12,f 13,f 14,f 15,f 16,f 17,f 18,f 19,f 20,f 21,f 22,f 23,f 24,f 25,f 26,f 27,f 28,f 29,f 30,f 31,f 32,f 33,f 34,f 35,f 36,f 37,f 38,f 39,f 40,f 41,f 42,f 43,f 44,f 45,f 46,f 47,f 48,f 49,.tuple #[.agg #[.slice a0 n0 k0,.slice a1 n1 k1,.slice a2 n2 k2],.int .i64 0],f 51,f 52,f 53,f 54,f 55,f 56,f 57,f 58,f 59,f 60,f 61,f 62,f 63,f 64,f 65,f 66,f 67,f 68,f 69,f 70,f 71,f 72,f 73,f 74,f 75,f 76,f 77,f 78,f 79,f 80,f 81,f 82,f 83,f 84,f 85,f 86,f 87,f 88,f 89,f 90,f 91,f 92,f 93,f 94,f 95,f 96,f 97,f 98,f 99,f 100,f 101,f 102,f 103,f 104,f 105,f 106,f 107,f 108,f 109,f 110,f 111,f 112,f 113,f 114,f 115,f 116,f 117,f 118,f 119,f 120,f 121,f 122,f 123,f 124,f 125,f 126,f 127,f 128,f 129,f 130,f 131,f 132,f 133,f 134,f 135,f 136,f 137,f 138,f 139,f 140,f 141,f 142,f 143,f 144,f 145,f 146,f 147,f 148,f 149,f 150,f 151,f 152,f 153,f 154,f 155,f 156,f 157,f 158,f 159,f 160,f 161,f 162,f 163,f 164,f 165,f 166,f 167,f 168,f 169,f 170,f 171,f 172,f 173,f 174],[]⟩ u:=by
 refine ItemsWp.tail (k:=4) (l:=opsA.toList.drop 4) rfl rfl ?_
 conv in(occs:= *) opsA=>
  all_goals
   unfold opsA opsR d10 d10 b10
   whnf
 simp only[List.drop_succ_cons,List.drop_zero]
 go_wp2_with fail
 exact⟨exg rfl,rfl⟩
set_option maxRecDepth 100000 in
set_option maxHeartbeats 4000000 in
theorem wp10_2(u:World)(f:Nat→Value)(p:Nat)(a0 a1 a2:Option Addr)(n0 n1 n2 k0 k1 k2:Nat):
  ItemsWp Try.prog [.inRegion opsB [4,5,6,7,8,9]] (QNc (Fr1 (fun g=>⟨#[.slice a L.length c,.int .i64 ch,.slice b chs.length d,.slice ea more.length ec,.int .u8 (fi:Int),g 5,g 6,g 7,g 8,g 9,.bool false,.pointer (some ⟨p,0,none⟩),.int .i64 0,.pointer (some ⟨u.heap.size,0,none⟩),.int .i64 0,g 15,g 16,g 17,g 18,g 19,g 20,g 21,g 22,g 23,g 24,g 25,g 26,g 27,g 28,g 29,g 30,g 31,g 32,g 33,g 34,g 35,g 36,g 37,g 38,g 39,g 40,g 41,g 42,g 43,g 44,g 45,g 46,g 47,g 48,g 49,g 50,g 51,g 52,g 53,g 54,g 55,g 56,g 57,g 58,g 59,g 60,g 61,g 62,g 63,g 64,g 65,g 66,g 67,g 68,g 69,g 70,g 71,g 72,g 73,g 74,g 75,g 76,g 77,g 78,g 79,g 80,g 81,g 82,g 83,g 84,g 85,g 86,g 87,g 88,g 89,g 90,g 91,g 92,g 93,g 94,g 95,g 96,g 97,g 98,g 99,g 100,g 101,g 102,g 103,g 104,g 105,g 106,g 107,g 108,g 109,g 110,g 111,g 112,g 113,g 114,g 115,g 116,g 117,g 118,g 119,g 120,g 121,g 122,g 123,g 124,g 125,g 126,g 127,g 128,g 129,g 130,g 131,g 132,g 133,g 134,g 135,g 136,g 137,g 138,g 139,g 140,g 141,g 142,g 143,g 144,g 145,g 146,g 147,g 148,g 149,g 150,g 151,g 152,g 153,g 154,g 155,g 156,g 157,g 158,g 159,g 160,g 161,g 162,g 163,g 164,g 165,g 166,g 167,g 168,g 169,g 170,g 171,g 172,g 173,g 174],[]⟩) fun u'=>u'=u.alloc (.cells #[.slice a0 n0 k0,.slice a1 n1 k1,.slice a2 n2 k2] 32)))
   ⟨#[.slice a L.length c,.int .i64 ch,.slice b chs.length d,.slice ea more.length ec,.int .u8 (fi:Int),f 5,f 6,f 7,f 8,f 9,.bool false,.pointer (some ⟨p,0,none⟩),.int .i64 0,f 13,f 14,f 15,f 16,f 17,f 18,f 19,f 20,f 21,f 22,f 23,f 24,f 25,f 26,f 27,f 28,f 29,f 30,f 31,f 32,f 33,f 34,f 35,f 36,f 37,f 38,f 39,f 40,f 41,f 42,f 43,f 44,f 45,f 46,f 47,f 48,f 49,f 50,f 51,f 52,f 53,f 54,f 55,f 56,.tuple #[.agg #[.slice a0 n0 k0,.slice a1 n1 k1,.slice a2 n2 k2],.int .i64 0],f 58,f 59,f 60,f 61,f 62,f 63,f 64,f 65,f 66,f 67,f 68,f 69,f 70,f 71,f 72,f 73,f 74,f 75,f 76,f 77,f 78,f 79,f 80,f 81,f 82,f 83,f 84,f 85,f 86,f 87,f 88,f 89,f 90,f 91,f 92,f 93,f 94,f 95,f 96,f 97,f 98,f 99,f 100,f 101,f 102,f 103,f 104,f 105,f 106,f 107,f 108,f 109,f 110,f 111,f 112,f 113,f 114,f 115,f 116,f 117,f 118,f 119,f 120,f 121,f 122,f 123,f 124,f 125,f 126,f 127,f 128,f 129,f 130,f 131,f 132,f 133,f 134,f 135,f 136,f 137,f 138,f 139,f 140,f 141,f 142,f 143,f 144,f 145,f 146,f 147,f 148,f 149,f 150,f 151,f 152,f 153,f 154,f 155,f 156,f 157,f 158,f 159,f 160,f 161,f 162,f 163,f 164,f 165,f 166,f 167,f 168,f 169,f 170,f 171,f 172,f 173,f 174],[]⟩ u:=by
 refine ItemsWp.tail (k:=4) (l:=opsB.toList.drop 4) rfl rfl ?_
 conv in(occs:= *) opsB=>
  all_goals
   unfold opsB opsR d10 d10 d10 b10
   whnf
 simp only[List.drop_succ_cons,List.drop_zero]
 go_wp2_with fail
 exact⟨exg rfl,rfl⟩
set_option maxRecDepth 100000 in
set_option maxHeartbeats 4000000 in
theorem wp10_3(u:World)(f:Nat→Value)(p q:Nat)(v0 v1 v2 w0 w1 w2:Value)(S:List StepP)(s t:List Int)(hp:Blk u p 32 [v0,v1,v2])(hq:Blk u q 32 [w0,w1,w2])(hv:RunRes u v0 v1 v2 S s t)(hw:RunRes u w0 w1 w2 S s t)(l0:S.length≤1000)(l1:s.length≤1000)(l2:t.length≤1000):
  (fstOf (d10 3)).wp Try.prog (QNc (Fr1 (fun g=>⟨#[.slice a L.length c,.int .i64 ch,.slice b chs.length d,.slice ea more.length ec,.int .u8 (fi:Int),g 5,g 6,g 7,g 8,g 9,.bool false,.pointer (some ⟨p,0,none⟩),g 12,g 13,g 14,g 15,g 16,g 17,g 18,g 19,g 20,g 21,g 22,g 23,g 24,g 25,g 26,g 27,g 28,g 29,g 30,g 31,g 32,g 33,g 34,g 35,g 36,g 37,g 38,g 39,g 40,g 41,g 42,g 43,g 44,g 45,g 46,g 47,g 48,g 49,g 50,g 51,g 52,g 53,g 54,g 55,g 56,g 57,g 58,g 59,g 60,g 61,g 62,g 63,g 64,g 65,g 66,g 67,g 68,g 69,g 70,g 71,g 72,g 73,g 74,g 75,g 76,g 77,g 78,g 79,g 80,g 81,g 82,g 83,g 84,g 85,g 86,g 87,g 88,g 89,g 90,g 91,g 92,g 93,g 94,g 95,g 96,g 97,g 98,g 99,g 100,g 101,g 102,g 103,g 104,g 105,g 106,g 107,g 108,g 109,g 110,g 111,g 112,g 113,g 114,g 115,g 116,g 117,g 118,g 119,g 120,g 121,g 122,g 123,g 124,g 125,g 126,g 127,g 128,g 129,g 130,g 131,g 132,g 133,g 134,g 135,g 136,g 137,g 138,g 139,g 140,g 141,g 142,g 143,g 144,g 145,g 146,g 147,g 148,g 149,g 150,g 151,g 152,g 153,g 154,g 155,g 156,g 157,g 158,g 159,g 160,g 161,g 162,g 163,g 164,g 165,g 166,g 167,g 168,g 169,g 170,g 171,g 172,g 173,g 174],[]⟩) fun u'=>Below u.heap.size u u')) ⟨#[.slice a L.length c,.int .i64 ch,.slice b chs.length d,.slice ea more.length ec,.int .u8 (fi:Int),f 5,f 6,f 7,f 8,f 9,.bool false,.pointer (some ⟨p,0,none⟩),.int .i64 0,.pointer (some ⟨q,0,none⟩),.int .i64 0,f 15,f 16,f 17,f 18,f 19,f 20,f 21,f 22,f 23,f 24,f 25,f 26,f 27,f 28,f 29,f 30,f 31,f 32,f 33,f 34,f 35,f 36,f 37,f 38,f 39,f 40,f 41,f 42,f 43,f 44,f 45,f 46,f 47,f 48,f 49,f 50,f 51,f 52,f 53,f 54,f 55,f 56,f 57,f 58,f 59,f 60,f 61,f 62,f 63,f 64,f 65,f 66,f 67,f 68,f 69,f 70,f 71,f 72,f 73,f 74,f 75,f 76,f 77,f 78,f 79,f 80,f 81,f 82,f 83,f 84,f 85,f 86,f 87,f 88,f 89,f 90,f 91,f 92,f 93,f 94,f 95,f 96,f 97,f 98,f 99,f 100,f 101,f 102,f 103,f 104,f 105,f 106,f 107,f 108,f 109,f 110,f 111,f 112,f 113,f 114,f 115,f 116,f 117,f 118,f 119,f 120,f 121,f 122,f 123,f 124,f 125,f 126,f 127,f 128,f 129,f 130,f 131,f 132,f 133,f 134,f 135,f 136,f 137,f 138,f 139,f 140,f 141,f 142,f 143,f 144,f 145,f 146,f 147,f 148,f 149,f 150,f 151,f 152,f 153,f 154,f 155,f 156,f 157,f 158,f 159,f 160,f 161,f 162,f 163,f 164,f 165,f 166,f 167,f 168,f 169,f 170,f 171,f 172,f 173,f 174],[]⟩ u:=by
 obtain⟨⟨a0,k0,rfl,r0⟩,⟨a1,k1,rfl,r1⟩,⟨a2,k2,rfl,r2⟩⟩:=hv
 obtain⟨⟨b0,m0,rfl,s0'⟩,⟨b1,m1,rfl,s1⟩,⟨b2,m2,rfl,s2⟩⟩:=hw
 have EQ:=Lib.hid (equal_any u (.slice a0 S.length k0) (.slice a1 s.length k1) (.slice a2 t.length k2) (.slice b0 S.length m0) (.slice b1 s.length m1) (.slice b2 t.length m2) S S s s t t ⟨a0,k0,rfl,r0⟩ ⟨a1,k1,rfl,r1⟩ ⟨a2,k2,rfl,r2⟩ ⟨b0,m0,rfl,s0'⟩ ⟨b1,m1,rfl,s1⟩ ⟨b2,m2,rfl,s2⟩ (by unfold maxLen;omega) (by unfold maxLen;omega) (by unfold maxLen;omega))
 have y0:u.cell? ⟨p,0,none⟩=some (.slice a0 S.length k0):=hp.cell (i:=0) rfl
 have y1:u.cell? ⟨p,1,none⟩=some (.slice a1 s.length k1):=hp.cell (i:=1) rfl
 have y2:u.cell? ⟨p,2,none⟩=some (.slice a2 t.length k2):=hp.cell (i:=2) rfl
 have z0:u.cell? ⟨q,0,none⟩=some (.slice b0 S.length m0):=hq.cell (i:=0) rfl
 have z1:u.cell? ⟨q,1,none⟩=some (.slice b1 s.length m1):=hq.cell (i:=1) rfl
 have z2:u.cell? ⟨q,2,none⟩=some (.slice b2 t.length m2):=hq.cell (i:=2) rfl
 clear r0 r1 r2 s0' s1 s2 hp hq l0 l1 l2
 generalize S.length=n0 at*
 generalize s.length=n1 at*
 generalize t.length=n2 at*
 unfold d10 d10 d10 d10 b10
 conv in Option.getD _ _=>whnf
 dsimp only[fstOf,sndOf]
 go_wp2_with fail
 refine EQ.out.mono ?_
 rintro e w6 ⟨bb,rfl,hbb,hb⟩
 obtain rfl:bb=true:=hbb.2 (by simp)
 have B6:=Lib.hid hb
 clear EQ hbb hb
 go_wp2_with fail
 exact⟨exg rfl,B6.out⟩
set_option maxRecDepth 100000 in
set_option maxHeartbeats 4000000 in
theorem wp10_4(u:World)(f:Nat→Value)(p n0 k0:Nat)(a0:Option Addr)(y0:u.cell? ⟨p,0,none⟩=some (.slice a0 n0 k0))(t:Bool)(ht:t=decide (n0≤chs.length)):
  (fstOf (fstOf (d10 4))).wp Try.prog (QNc (Fr1 (fun g=>⟨#[.slice a L.length c,.int .i64 ch,.slice b chs.length d,.slice ea more.length ec,.int .u8 (fi:Int),g 5,g 6,g 7,g 8,g 9,.bool false,.pointer (some ⟨p,0,none⟩),g 12,g 13,g 14,g 15,g 16,g 17,g 18,g 19,g 20,g 21,g 22,g 23,g 24,g 25,g 26,g 27,g 28,g 29,g 30,g 31,g 32,g 33,g 34,g 35,g 36,g 37,g 38,g 39,g 40,g 41,g 42,g 43,g 44,g 45,g 46,g 47,g 48,g 49,g 50,g 51,g 52,g 53,g 54,g 55,g 56,g 57,g 58,g 59,g 60,g 61,g 62,g 63,g 64,g 65,g 66,g 67,g 68,g 69,g 70,g 71,g 72,g 73,g 74,g 75,g 76,.bool t,g 78,g 79,g 80,g 81,g 82,g 83,g 84,g 85,g 86,g 87,g 88,g 89,g 90,g 91,g 92,g 93,g 94,g 95,g 96,g 97,g 98,g 99,g 100,g 101,g 102,g 103,g 104,g 105,g 106,g 107,g 108,g 109,g 110,g 111,g 112,g 113,g 114,g 115,g 116,g 117,g 118,g 119,g 120,g 121,g 122,g 123,g 124,g 125,g 126,g 127,g 128,g 129,g 130,g 131,g 132,g 133,g 134,g 135,g 136,g 137,g 138,g 139,g 140,g 141,g 142,g 143,g 144,g 145,g 146,g 147,g 148,g 149,g 150,g 151,g 152,g 153,g 154,g 155,g 156,g 157,g 158,g 159,g 160,g 161,g 162,g 163,g 164,g 165,g 166,g 167,g 168,g 169,g 170,g 171,g 172,g 173,g 174],[]⟩) fun u'=>u'=u)) ⟨#[.slice a L.length c,.int .i64 ch,.slice b chs.length d,.slice ea more.length ec,.int .u8 (fi:Int),f 5,f 6,f 7,f 8,f 9,.bool false,.pointer (some ⟨p,0,none⟩),f 12,f 13,f 14,f 15,f 16,f 17,f 18,f 19,f 20,f 21,f 22,f 23,f 24,f 25,f 26,f 27,f 28,f 29,f 30,f 31,f 32,f 33,f 34,f 35,f 36,f 37,f 38,f 39,f 40,f 41,f 42,f 43,f 44,f 45,f 46,f 47,f 48,f 49,f 50,f 51,f 52,f 53,f 54,f 55,f 56,f 57,f 58,f 59,f 60,f 61,f 62,f 63,f 64,f 65,f 66,f 67,f 68,f 69,f 70,f 71,f 72,f 73,f 74,f 75,f 76,f 77,f 78,f 79,f 80,f 81,f 82,f 83,f 84,f 85,f 86,f 87,f 88,f 89,f 90,f 91,f 92,f 93,f 94,f 95,f 96,f 97,f 98,f 99,f 100,f 101,f 102,f 103,f 104,f 105,f 106,f 107,f 108,f 109,f 110,f 111,f 112,f 113,f 114,f 115,f 116,f 117,f 118,f 119,f 120,f 121,f 122,f 123,f 124,f 125,f 126,f 127,f 128,f 129,f 130,f 131,f 132,f 133,f 134,f 135,f 136,f 137,f 138,f 139,f 140,f 141,f 142,f 143,f 144,f 145,f 146,f 147,f 148,f 149,f 150,f 151,f 152,f 153,f 154,f 155,f 156,f 157,f 158,f 159,f 160,f 161,f 162,f 163,f 164,f 165,f 166,f 167,f 168,f 169,f 170,f 171,f 172,f 173,f 174],[]⟩ u:=by
 unfold d10 d10 d10 d10 d10 b10
 conv in Option.getD _ _=>whnf
 dsimp only[fstOf,sndOf]
 cases t with
 |true=>
  have h:n0≤chs.length:=by simpa using ht.symm
  have e1:(n0:Int)≤(chs.length:Int):=by omega
  clear ht h
  go_wp2_with fail
  exact⟨exg rfl,rfl⟩
 |false=>
  have h:¬n0≤chs.length:=by simpa using ht.symm
  have e1:¬(n0:Int)≤(chs.length:Int):=by omega
  clear ht h
  go_wp2_with fail
  exact⟨exg rfl,rfl⟩
set_option maxRecDepth 100000 in
set_option maxHeartbeats 4000000 in
theorem wp10_5(u:World)(f:Nat→Value)(p:Nat)(v0 v1 v2 w0 w1 w2:Value)(S:List StepP)(s t:List Int)(hp:Blk u p 32 [v0,v1,v2])(hv:RunRes u v0 v1 v2 S s t)(hw:RunRes u w0 w1 w2 S s t)(l0:S.length≤1000)(l1:s.length≤1000)(l2:t.length≤1000):
  ItemsWp Try.prog [.inRegion opsC [11,12,13,14,15,16],.code (sndOf x10)] (QNc (Fr1 (fun g=>⟨#[.slice a L.length c,.int .i64 ch,.slice b chs.length d,.slice ea more.length ec,.int .u8 (fi:Int),g 5,g 6,g 7,g 8,g 9,.bool false,.pointer (some ⟨p,0,none⟩),g 12,g 13,g 14,g 15,g 16,g 17,g 18,g 19,g 20,g 21,g 22,g 23,g 24,g 25,g 26,g 27,g 28,g 29,g 30,g 31,g 32,g 33,g 34,g 35,g 36,g 37,g 38,g 39,g 40,g 41,g 42,g 43,g 44,g 45,g 46,g 47,g 48,g 49,g 50,g 51,g 52,g 53,g 54,g 55,g 56,g 57,g 58,g 59,g 60,g 61,g 62,g 63,g 64,g 65,g 66,g 67,g 68,g 69,g 70,g 71,g 72,g 73,g 74,g 75,g 76,g 77,g 78,g 79,g 80,g 81,g 82,g 83,g 84,g 85,g 86,g 87,g 88,g 89,g 90,g 91,g 92,g 93,g 94,g 95,g 96,g 97,g 98,g 99,g 100,g 101,g 102,g 103,g 104,g 105,g 106,g 107,g 108,g 109,g 110,g 111,g 112,g 113,g 114,g 115,g 116,g 117,g 118,g 119,g 120,g 121,g 122,g 123,g 124,g 125,g 126,g 127,g 128,g 129,g 130,g 131,g 132,g 133,g 134,g 135,g 136,g 137,g 138,g 139,g 140,g 141,g 142,g 143,g 144,g 145,g 146,g 147,g 148,g 149,g 150,g 151,g 152,g 153,g 154,g 155,g 156,g 157,g 158,g 159,g 160,g 161,g 162,g 163,g 164,g 165,g 166,g 167,g 168,g 169,g 170,g 171,g 172,g 173,g 174],[]⟩) fun u'=>Below u.heap.size u u')) ⟨#[.slice a L.length c,.int .i64 ch,.slice b chs.length d,.slice ea more.length ec,.int .u8 (fi:Int),f 5,f 6,f 7,f 8,f 9,.bool false,.pointer (some ⟨p,0,none⟩),f 12,f 13,f 14,f 15,f 16,f 17,f 18,f 19,f 20,f 21,f 22,f 23,f 24,f 25,f 26,f 27,f 28,f 29,f 30,f 31,f 32,f 33,f 34,f 35,f 36,f 37,f 38,f 39,f 40,f 41,f 42,f 43,f 44,f 45,f 46,f 47,f 48,f 49,f 50,f 51,f 52,f 53,f 54,f 55,f 56,f 57,f 58,f 59,f 60,f 61,f 62,f 63,f 64,f 65,f 66,f 67,f 68,f 69,f 70,f 71,f 72,f 73,f 74,f 75,f 76,f 77,f 78,f 79,f 80,f 81,f 82,f 83,f 84,f 85,f 86,f 87,f 88,.tuple #[.agg #[w0,w1,w2],.int .i64 0],f 90,f 91,f 92,f 93,f 94,f 95,f 96,f 97,f 98,f 99,f 100,f 101,f 102,f 103,f 104,f 105,f 106,f 107,f 108,f 109,f 110,f 111,f 112,f 113,f 114,f 115,f 116,f 117,f 118,f 119,f 120,f 121,f 122,f 123,f 124,f 125,f 126,f 127,f 128,f 129,f 130,f 131,f 132,f 133,f 134,f 135,f 136,f 137,f 138,f 139,f 140,f 141,f 142,f 143,f 144,f 145,f 146,f 147,f 148,f 149,f 150,f 151,f 152,f 153,f 154,f 155,f 156,f 157,f 158,f 159,f 160,f 161,f 162,f 163,f 164,f 165,f 166,f 167,f 168,f 169,f 170,f 171,f 172,f 173,f 174],[]⟩ u:=by
 obtain⟨⟨a0,k0,rfl,r0⟩,⟨a1,k1,rfl,r1⟩,⟨a2,k2,rfl,r2⟩⟩:=hv
 obtain⟨⟨b0,m0,rfl,s0'⟩,⟨b1,m1,rfl,s1⟩,⟨b2,m2,rfl,s2⟩⟩:=hw
 have EQ:Hid (∀w,Below u.heap.size u w→Calls Try.prog 17 #[.agg #[.slice a0 S.length k0,.slice a1 s.length k1,.slice a2 t.length k2],.agg #[.slice b0 S.length m0,.slice b1 s.length m1,.slice b2 t.length m2]] w (EqlPost w (S=S∧s=s∧t=t))):=Lib.hid fun w q=>
  equal_any w (.slice a0 S.length k0) (.slice a1 s.length k1) (.slice a2 t.length k2) (.slice b0 S.length m0) (.slice b1 s.length m1) (.slice b2 t.length m2) S S s s t t ⟨a0,k0,rfl,r0.reads (Reads.below q)⟩ ⟨a1,k1,rfl,r1.reads (Reads.below q)⟩ ⟨a2,k2,rfl,r2.reads (Reads.below q)⟩ ⟨b0,m0,rfl,s0'.reads (Reads.below q)⟩ ⟨b1,m1,rfl,s1.reads (Reads.below q)⟩ ⟨b2,m2,rfl,s2.reads (Reads.below q)⟩ (by unfold maxLen;omega) (by unfold maxLen;omega) (by unfold maxLen;omega)
 have HP:=Lib.hid hp
 clear r0 r1 r2 s0' s1 s2 hp l0 l1 l2
 generalize S.length=n0 at*
 generalize s.length=n1 at*
 generalize t.length=n2 at*
 refine ItemsWp.then (k:=11) (l:=opsC.toList.drop 11) rfl rfl fun K hK=>?_
 conv in(occs:= *) opsC=>
  all_goals
   unfold opsC opsR x10 d10 d10 d10 d10 d10 b10
   whnf
 unfold x10 d10 d10 d10 d10 d10 b10 at hK
 conv at hK in Option.getD _ _=>whnf
 dsimp only[sndOf,fstOf,thenOf] at hK
 simp only[List.drop_succ_cons,List.drop_zero]
 obtain⟨W0,hW⟩:∃W0,W0=u.alloc (.cells #[.slice b0 n0 m0,.slice b1 n1 m1,.slice b2 n2 m2] 32):=⟨_,rfl⟩
 have NX:Hid (Blk W0 u.heap.size 32 [.slice b0 n0 m0,.slice b1 n1 m1,.slice b2 n2 m2]):=Lib.hid (by rw[hW];exact Blk.new u _ _)
 have B0:Hid (Below u.heap.size u W0):=Lib.hid (by rw[hW];exact(Below.refl _ _).alloc (Nat.le_refl _) _)
 have H0:=Lib.hid (HP.out.upd (S:=fun _=>False) (Upd.of_below B0.out) id)
 have E0:=Lib.hid (EQ.out W0 B0.out)
 have y0:(u.alloc (.cells #[.slice b0 n0 m0,.slice b1 n1 m1,.slice b2 n2 m2] 32)).cell? ⟨p,0,none⟩=some (.slice a0 n0 k0):=by rw[←hW];exact H0.out.cell (i:=0) rfl
 have y1:(u.alloc (.cells #[.slice b0 n0 m0,.slice b1 n1 m1,.slice b2 n2 m2] 32)).cell? ⟨p,1,none⟩=some (.slice a1 n1 k1):=by rw[←hW];exact H0.out.cell (i:=1) rfl
 have y2:(u.alloc (.cells #[.slice b0 n0 m0,.slice b1 n1 m1,.slice b2 n2 m2] 32)).cell? ⟨p,2,none⟩=some (.slice a2 n2 k2):=by rw[←hW];exact H0.out.cell (i:=2) rfl
 have z0:(u.alloc (.cells #[.slice b0 n0 m0,.slice b1 n1 m1,.slice b2 n2 m2] 32)).cell? ⟨u.heap.size,0,none⟩=some (.slice b0 n0 m0):=by rw[←hW];exact NX.out.cell (i:=0) rfl
 have z1:(u.alloc (.cells #[.slice b0 n0 m0,.slice b1 n1 m1,.slice b2 n2 m2] 32)).cell? ⟨u.heap.size,1,none⟩=some (.slice b1 n1 m1):=by rw[←hW];exact NX.out.cell (i:=1) rfl
 have z2:(u.alloc (.cells #[.slice b0 n0 m0,.slice b1 n1 m1,.slice b2 n2 m2] 32)).cell? ⟨u.heap.size,2,none⟩=some (.slice b2 n2 m2):=by rw[←hW];exact NX.out.cell (i:=2) rfl
 clear EQ HP NX H0
 go_wp2_with fail
 rw[←hW]
 refine E0.out.mono ?_
 rintro e w6 ⟨bb,rfl,hbb,hb⟩
 obtain rfl:bb=true:=hbb.2 (by simp)
 have B6:=Lib.hid (B0.out.trans (hb.mono B0.out.size))
 clear E0 hbb hb y0 y1 y2 z0 z1 z2 hW B0
 clear W0
 go_wp2_with fail
 exact⟨exg rfl,B6.out⟩
set_option maxRecDepth 100000 in
set_option maxHeartbeats 4000000 in
theorem wp10_6(u:World)(f:Nat→Value)(p:Nat)(hs:SlT u a L)(hv:validT ch L=true)(hl:L.length≤8)(ho:∀t∈L,t.ops.length≤30)(hel:∀t∈L,∀x∈t.ops,x.el.length≤1000000):
  (fstOf (d10 5)).wp Try.prog (QNc (Fr2 (fun e1 f1 g=>⟨#[.slice a L.length c,.int .i64 ch,.slice b chs.length d,.slice ea more.length ec,.int .u8 (fi:Int),g 5,g 6,g 7,g 8,g 9,.bool false,.pointer (some ⟨p,0,none⟩),g 12,g 13,g 14,g 15,g 16,.slice e1 L.length f1,g 18,g 19,g 20,g 21,g 22,g 23,g 24,g 25,g 26,g 27,g 28,g 29,g 30,g 31,g 32,g 33,g 34,g 35,g 36,g 37,g 38,g 39,g 40,g 41,g 42,g 43,g 44,g 45,g 46,g 47,g 48,g 49,g 50,g 51,g 52,g 53,g 54,g 55,g 56,g 57,g 58,g 59,g 60,g 61,g 62,g 63,g 64,g 65,g 66,g 67,g 68,g 69,g 70,g 71,g 72,g 73,g 74,g 75,g 76,g 77,g 78,g 79,g 80,g 81,g 82,g 83,g 84,g 85,g 86,g 87,g 88,g 89,g 90,g 91,g 92,g 93,g 94,g 95,g 96,g 97,g 98,g 99,g 100,g 101,g 102,g 103,g 104,g 105,g 106,g 107,g 108,g 109,g 110,g 111,g 112,g 113,g 114,g 115,g 116,g 117,g 118,g 119,g 120,g 121,g 122,g 123,g 124,g 125,g 126,g 127,g 128,g 129,g 130,g 131,g 132,g 133,g 134,g 135,g 136,g 137,g 138,g 139,g 140,g 141,g 142,g 143,g 144,g 145,g 146,g 147,g 148,g 149,g 150,g 151,g 152,g 153,g 154,g 155,g 156,g 157,g 158,g 159,g 160,g 161,g 162,g 163,g 164,g 165,g 166,g 167,g 168,g 169,g 170,g 171,g 172,g 173,g 174],[]⟩) fun e1 u'=>Sl (Value.int .i64) u' e1 (at_L L.length (s0 L))∧Below u.heap.size u u')) ⟨#[.slice a L.length c,.int .i64 ch,.slice b chs.length d,.slice ea more.length ec,.int .u8 (fi:Int),f 5,f 6,f 7,f 8,f 9,.bool false,.pointer (some ⟨p,0,none⟩),f 12,f 13,f 14,f 15,f 16,f 17,f 18,f 19,f 20,f 21,f 22,f 23,f 24,f 25,f 26,f 27,f 28,f 29,f 30,f 31,f 32,f 33,f 34,f 35,f 36,f 37,f 38,f 39,f 40,f 41,f 42,f 43,f 44,f 45,f 46,f 47,f 48,f 49,f 50,f 51,f 52,f 53,f 54,f 55,f 56,f 57,f 58,f 59,f 60,f 61,f 62,f 63,f 64,f 65,f 66,f 67,f 68,f 69,f 70,f 71,f 72,f 73,f 74,f 75,f 76,f 77,f 78,f 79,f 80,f 81,f 82,f 83,f 84,f 85,f 86,f 87,f 88,f 89,f 90,f 91,f 92,f 93,f 94,f 95,f 96,f 97,f 98,f 99,f 100,f 101,f 102,f 103,f 104,f 105,f 106,f 107,f 108,f 109,f 110,f 111,f 112,f 113,f 114,f 115,f 116,f 117,f 118,f 119,f 120,f 121,f 122,f 123,f 124,f 125,f 126,f 127,f 128,f 129,f 130,f 131,f 132,f 133,f 134,f 135,f 136,f 137,f 138,f 139,f 140,f 141,f 142,f 143,f 144,f 145,f 146,f 147,f 148,f 149,f 150,f 151,f 152,f 153,f 154,f 155,f 156,f 157,f 158,f 159,f 160,f 161,f 162,f 163,f 164,f 165,f 166,f 167,f 168,f 169,f 170,f 171,f 172,f 173,f 174],[]⟩ u:=by
 have RP:=Lib.hid (replay_any u a none c 0 L ch [] (s0 L) hs (fun j s h=>by cases h) hv .nil hl ho hel (by simp))
 simp only[List.length_nil] at RP
 clear hs hv hl ho hel
 unfold d10 d10 d10 d10 d10 d10 b10
 conv in Option.getD _ _=>whnf
 dsimp only[fstOf,sndOf]
 go_wp2_with fail
 refine RP.out.mono ?_
 rintro e w3 ⟨p1,p2,rfl,⟨e1,f1,rfl,h1⟩,⟨e2,f2,rfl,h2⟩,hb⟩
 rw[at_L_len]
 have B3:=Lib.hid hb
 have H1:=Lib.hid h1
 clear RP h1 h2 hb
 go_wp2_with fail
 exact⟨_,_,exg rfl,H1.out,B3.out⟩
set_option maxRecDepth 100000 in
set_option maxHeartbeats 4000000 in
theorem wp10_7(u:World)(f:Nat→Value)(p f1:Nat)(e1:Option Addr)(P:List StepP)(hP:possS L (s0 L)=P)(hs:SlT u a L)(h1:Sl (Value.int .i64) u e1 (at_L L.length (s0 L)))(hv:validT ch L=true)(hl:L.length≤8)(hel:∀t∈L,∀x∈t.ops,x.el.length≤1000000):
  (fstOf (d10 6)).wp Try.prog (QNc (Fr2 (fun l1 lc g=>⟨#[.slice a L.length c,.int .i64 ch,.slice b chs.length d,.slice ea more.length ec,.int .u8 (fi:Int),g 5,g 6,g 7,g 8,g 9,.bool false,.pointer (some ⟨p,0,none⟩),g 12,g 13,g 14,g 15,g 16,g 17,g 18,g 19,.slice l1 P.length lc,g 21,g 22,g 23,g 24,g 25,g 26,g 27,g 28,g 29,g 30,g 31,g 32,g 33,g 34,g 35,g 36,g 37,g 38,g 39,g 40,g 41,g 42,g 43,g 44,g 45,g 46,g 47,g 48,g 49,g 50,g 51,g 52,g 53,g 54,g 55,g 56,g 57,g 58,g 59,g 60,g 61,g 62,g 63,g 64,g 65,g 66,g 67,g 68,g 69,g 70,g 71,g 72,g 73,g 74,g 75,g 76,g 77,g 78,g 79,g 80,g 81,g 82,g 83,g 84,g 85,g 86,g 87,g 88,g 89,g 90,g 91,g 92,g 93,g 94,g 95,g 96,g 97,g 98,g 99,g 100,g 101,g 102,g 103,g 104,g 105,g 106,g 107,g 108,g 109,g 110,g 111,g 112,g 113,g 114,g 115,g 116,g 117,g 118,g 119,g 120,g 121,g 122,g 123,g 124,g 125,g 126,g 127,g 128,g 129,g 130,g 131,g 132,g 133,g 134,g 135,g 136,g 137,g 138,g 139,g 140,g 141,g 142,g 143,g 144,g 145,g 146,g 147,g 148,g 149,g 150,g 151,g 152,g 153,g 154,g 155,g 156,g 157,g 158,g 159,g 160,g 161,g 162,g 163,g 164,g 165,g 166,g 167,g 168,g 169,g 170,g 171,g 172,g 173,g 174],[]⟩) fun l1 u'=>SlSt u' l1 P∧Below u.heap.size u u')) ⟨#[.slice a L.length c,.int .i64 ch,.slice b chs.length d,.slice ea more.length ec,.int .u8 (fi:Int),f 5,f 6,f 7,f 8,f 9,.bool false,.pointer (some ⟨p,0,none⟩),f 12,f 13,f 14,f 15,f 16,.slice e1 L.length f1,f 18,f 19,f 20,f 21,f 22,f 23,f 24,f 25,f 26,f 27,f 28,f 29,f 30,f 31,f 32,f 33,f 34,f 35,f 36,f 37,f 38,f 39,f 40,f 41,f 42,f 43,f 44,f 45,f 46,f 47,f 48,f 49,f 50,f 51,f 52,f 53,f 54,f 55,f 56,f 57,f 58,f 59,f 60,f 61,f 62,f 63,f 64,f 65,f 66,f 67,f 68,f 69,f 70,f 71,f 72,f 73,f 74,f 75,f 76,f 77,f 78,f 79,f 80,f 81,f 82,f 83,f 84,f 85,f 86,f 87,f 88,f 89,f 90,f 91,f 92,f 93,f 94,f 95,f 96,f 97,f 98,f 99,f 100,f 101,f 102,f 103,f 104,f 105,f 106,f 107,f 108,f 109,f 110,f 111,f 112,f 113,f 114,f 115,f 116,f 117,f 118,f 119,f 120,f 121,f 122,f 123,f 124,f 125,f 126,f 127,f 128,f 129,f 130,f 131,f 132,f 133,f 134,f 135,f 136,f 137,f 138,f 139,f 140,f 141,f 142,f 143,f 144,f 145,f 146,f 147,f 148,f 149,f 150,f 151,f 152,f 153,f 154,f 155,f 156,f 157,f 158,f 159,f 160,f 161,f 162,f 163,f 164,f 165,f 166,f 167,f 168,f 169,f 170,f 171,f 172,f 173,f 174],[]⟩ u:=by
 have RD:Hid (Calls Try.prog 22 #[.slice a L.length c,.int .i64 ch,.slice e1 L.length f1] u (RdyPost u P)):=Lib.hid (by
  have h:=ready_any u a e1 c f1 L ch (at_L L.length (s0 L)) hs h1 (by unfold maxLen;omega) (by rw[at_L_len];unfold maxLen;omega) hel
  rw[readyD_poss hv (fit0 L),hP,at_L_len] at h
  exact h)
 clear hs h1 hv hl hel hP
 unfold d10 d10 d10 d10 d10 d10 d10 b10
 conv in Option.getD _ _=>whnf
 dsimp only[fstOf,sndOf]
 go_wp2_with fail
 refine RD.out.mono ?_
 rintro e w5 ⟨v,rfl,⟨ra,rc,rfl,hst⟩,hb⟩
 have B5:=Lib.hid hb
 have H5:=Lib.hid hst
 clear RD hb hst
 go_wp2_with fail
 exact⟨_,_,exg rfl,H5.out,B5.out⟩
set_option maxRecDepth 100000 in
set_option maxHeartbeats 4000000 in
theorem wp10_8(u:World)(f:Nat→Value)(p n0 k0 m lc:Nat)(a0 l1:Option Addr)(y0:u.cell? ⟨p,0,none⟩=some (.slice a0 n0 k0))(h0:m=0→n0=0):
  (fstOf (d10 7)).wp Try.prog (GdQ 10 u (0<m) fun a'=>∃g:Nat→Value,a'=⟨#[.slice a L.length c,.int .i64 ch,.slice b chs.length d,.slice ea more.length ec,.int .u8 (fi:Int),g 5,g 6,g 7,g 8,g 9,.bool false,g 11,g 12,g 13,g 14,g 15,g 16,g 17,g 18,g 19,.slice l1 m lc,g 21,g 22,g 23,g 24,g 25,g 26,g 27,g 28,g 29,g 30,g 31,g 32,g 33,g 34,g 35,g 36,g 37,g 38,g 39,g 40,g 41,g 42,g 43,g 44,g 45,g 46,g 47,g 48,g 49,g 50,g 51,g 52,g 53,g 54,g 55,g 56,g 57,g 58,g 59,g 60,g 61,g 62,g 63,g 64,g 65,g 66,g 67,g 68,g 69,g 70,g 71,g 72,g 73,g 74,g 75,g 76,g 77,g 78,g 79,g 80,g 81,g 82,g 83,g 84,g 85,g 86,g 87,g 88,g 89,g 90,g 91,g 92,g 93,g 94,g 95,g 96,g 97,g 98,g 99,g 100,g 101,g 102,g 103,g 104,g 105,g 106,g 107,g 108,g 109,g 110,g 111,g 112,g 113,g 114,g 115,g 116,g 117,g 118,g 119,g 120,g 121,g 122,g 123,g 124,g 125,g 126,g 127,g 128,g 129,g 130,g 131,g 132,g 133,g 134,g 135,g 136,g 137,g 138,g 139,g 140,g 141,g 142,g 143,g 144,g 145,g 146,g 147,g 148,g 149,g 150,g 151,g 152,g 153,g 154,g 155,g 156,g 157,g 158,g 159,g 160,g 161,g 162,g 163,g 164,g 165,g 166,g 167,g 168,g 169,g 170,g 171,g 172,g 173,g 174],[]⟩) ⟨#[.slice a L.length c,.int .i64 ch,.slice b chs.length d,.slice ea more.length ec,.int .u8 (fi:Int),f 5,f 6,f 7,f 8,f 9,.bool false,.pointer (some ⟨p,0,none⟩),f 12,f 13,f 14,f 15,f 16,f 17,f 18,f 19,.slice l1 m lc,f 21,f 22,f 23,f 24,f 25,f 26,f 27,f 28,f 29,f 30,f 31,f 32,f 33,f 34,f 35,f 36,f 37,f 38,f 39,f 40,f 41,f 42,f 43,f 44,f 45,f 46,f 47,f 48,f 49,f 50,f 51,f 52,f 53,f 54,f 55,f 56,f 57,f 58,f 59,f 60,f 61,f 62,f 63,f 64,f 65,f 66,f 67,f 68,f 69,f 70,f 71,f 72,f 73,f 74,f 75,f 76,f 77,f 78,f 79,f 80,f 81,f 82,f 83,f 84,f 85,f 86,f 87,f 88,f 89,f 90,f 91,f 92,f 93,f 94,f 95,f 96,f 97,f 98,f 99,f 100,f 101,f 102,f 103,f 104,f 105,f 106,f 107,f 108,f 109,f 110,f 111,f 112,f 113,f 114,f 115,f 116,f 117,f 118,f 119,f 120,f 121,f 122,f 123,f 124,f 125,f 126,f 127,f 128,f 129,f 130,f 131,f 132,f 133,f 134,f 135,f 136,f 137,f 138,f 139,f 140,f 141,f 142,f 143,f 144,f 145,f 146,f 147,f 148,f 149,f 150,f 151,f 152,f 153,f 154,f 155,f 156,f 157,f 158,f 159,f 160,f 161,f 162,f 163,f 164,f 165,f 166,f 167,f 168,f 169,f 170,f 171,f 172,f 173,f 174],[]⟩ u:=by
 unfold d10 d10 d10 d10 d10 d10 d10 d10 b10
 conv in Option.getD _ _=>whnf
 dsimp only[fstOf,sndOf]
 by_cases hm:m=0
 ·obtain rfl:n0=0:=h0 hm
  subst hm
  clear h0
  go_wp2_with fail
  exact⟨Below.refl _ _,.inl ⟨rfl,rfl⟩⟩
 ·have e1:((m:Int)==0)=false:=by simp;omega
  have hm0:0<m:=by omega
  clear h0 hm
  go_wp2_with fail
  exact⟨Below.refl _ _,.inr ⟨rfl,hm0,exg rfl⟩⟩
set_option maxRecDepth 100000 in
set_option maxHeartbeats 4000000 in
theorem wp10_9(u:World)(f:Nat→Value)(m lc:Nat)(l1:Option Addr)(hf:fi≤255)(hm:0<m)(hm2:m≤1000):
  (fstOf (d10 8)).wp Try.prog (QNc (Fr1 (fun g=>⟨#[.slice a L.length c,.int .i64 ch,.slice b chs.length d,.slice ea more.length ec,.int .u8 (fi:Int),g 5,g 6,g 7,g 8,g 9,.bool false,g 11,g 12,g 13,g 14,g 15,g 16,g 17,g 18,g 19,.slice l1 m lc,.int .i64 ((fi%m:Nat):Int),g 22,g 23,g 24,g 25,g 26,g 27,g 28,g 29,g 30,g 31,g 32,g 33,g 34,g 35,g 36,g 37,g 38,g 39,g 40,g 41,g 42,g 43,g 44,g 45,g 46,g 47,g 48,g 49,g 50,g 51,g 52,g 53,g 54,g 55,g 56,g 57,g 58,g 59,g 60,g 61,g 62,g 63,g 64,g 65,g 66,g 67,g 68,g 69,g 70,g 71,g 72,g 73,g 74,g 75,g 76,g 77,g 78,g 79,g 80,g 81,g 82,g 83,g 84,g 85,g 86,g 87,g 88,g 89,g 90,g 91,g 92,g 93,g 94,g 95,g 96,g 97,g 98,g 99,g 100,g 101,g 102,g 103,g 104,g 105,g 106,g 107,g 108,g 109,g 110,g 111,g 112,g 113,g 114,g 115,g 116,g 117,g 118,g 119,g 120,g 121,g 122,g 123,g 124,g 125,g 126,g 127,g 128,g 129,g 130,g 131,g 132,g 133,g 134,g 135,g 136,g 137,g 138,g 139,g 140,g 141,g 142,g 143,g 144,g 145,g 146,g 147,g 148,g 149,g 150,g 151,g 152,g 153,g 154,g 155,g 156,g 157,g 158,g 159,g 160,g 161,g 162,g 163,g 164,g 165,g 166,g 167,g 168,g 169,g 170,g 171,g 172,g 173,g 174],[]⟩) fun u'=>u'=u)) ⟨#[.slice a L.length c,.int .i64 ch,.slice b chs.length d,.slice ea more.length ec,.int .u8 (fi:Int),f 5,f 6,f 7,f 8,f 9,.bool false,f 11,f 12,f 13,f 14,f 15,f 16,f 17,f 18,f 19,.slice l1 m lc,f 21,f 22,f 23,f 24,f 25,f 26,f 27,f 28,f 29,f 30,f 31,f 32,f 33,f 34,f 35,f 36,f 37,f 38,f 39,f 40,f 41,f 42,f 43,f 44,f 45,f 46,f 47,f 48,f 49,f 50,f 51,f 52,f 53,f 54,f 55,f 56,f 57,f 58,f 59,f 60,f 61,f 62,f 63,f 64,f 65,f 66,f 67,f 68,f 69,f 70,f 71,f 72,f 73,f 74,f 75,f 76,f 77,f 78,f 79,f 80,f 81,f 82,f 83,f 84,f 85,f 86,f 87,f 88,f 89,f 90,f 91,f 92,f 93,f 94,f 95,f 96,f 97,f 98,f 99,f 100,f 101,f 102,f 103,f 104,f 105,f 106,f 107,f 108,f 109,f 110,f 111,f 112,f 113,f 114,f 115,f 116,f 117,f 118,f 119,f 120,f 121,f 122,f 123,f 124,f 125,f 126,f 127,f 128,f 129,f 130,f 131,f 132,f 133,f 134,f 135,f 136,f 137,f 138,f 139,f 140,f 141,f 142,f 143,f 144,f 145,f 146,f 147,f 148,f 149,f 150,f 151,f 152,f 153,f 154,f 155,f 156,f 157,f 158,f 159,f 160,f 161,f 162,f 163,f 164,f 165,f 166,f 167,f 168,f 169,f 170,f 171,f 172,f 173,f 174],[]⟩ u:=by
 have e0:((m:Int)==0)=false:=by simp;omega
 have e1:IntKind.i64.wrap (fi:Int)=(fi:Int):=IntWalk.i64_in _ (by omega)
 have e3:fi%m<m:=Nat.mod_lt _ hm
 have e2:IntKind.i64.wrap ((fi:Int).tmod (m:Int))=((fi%m:Nat):Int):=by
  rw[←Int.ofNat_tmod,IntWalk.i64_in _ (by omega)]
 unfold d10 d10 d10 d10 d10 d10 d10 d10 d10 b10
 conv in Option.getD _ _=>whnf
 dsimp only[fstOf,sndOf]
 go_wp2_with fail
 exact⟨exg rfl,rfl⟩
set_option maxRecDepth 100000 in
set_option maxHeartbeats 4000000 in
theorem wp10_10(u:World)(f:Nat→Value)(m lc k:Nat)(l1:Option Addr)(a0 a1 a2:Option Addr)(n0 n1 n2 k0 k1 k2:Nat):
  ItemsWp Try.prog [.inRegion opsD [7,8,9,10,11,12]] (QNc (Fr1 (fun g=>⟨#[.slice a L.length c,.int .i64 ch,.slice b chs.length d,.slice ea more.length ec,.int .u8 (fi:Int),g 5,g 6,g 7,g 8,g 9,.bool false,g 11,g 12,g 13,g 14,g 15,g 16,g 17,g 18,g 19,.slice l1 m lc,.int .i64 (k:Int),.pointer (some ⟨u.heap.size,0,none⟩),.int .i64 0,g 24,g 25,g 26,g 27,g 28,g 29,g 30,g 31,g 32,g 33,g 34,g 35,g 36,g 37,g 38,g 39,g 40,g 41,g 42,g 43,g 44,g 45,g 46,g 47,g 48,g 49,g 50,g 51,g 52,g 53,g 54,g 55,g 56,g 57,g 58,g 59,g 60,g 61,g 62,g 63,g 64,g 65,g 66,g 67,g 68,g 69,g 70,g 71,g 72,g 73,g 74,g 75,g 76,g 77,g 78,g 79,g 80,g 81,g 82,g 83,g 84,g 85,g 86,g 87,g 88,g 89,g 90,g 91,g 92,g 93,g 94,g 95,g 96,g 97,g 98,g 99,g 100,g 101,g 102,g 103,g 104,g 105,g 106,g 107,g 108,g 109,g 110,g 111,g 112,g 113,g 114,g 115,g 116,g 117,g 118,g 119,g 120,g 121,g 122,g 123,g 124,g 125,g 126,g 127,g 128,g 129,g 130,g 131,g 132,g 133,g 134,g 135,g 136,g 137,g 138,g 139,g 140,g 141,g 142,g 143,g 144,g 145,g 146,g 147,g 148,g 149,g 150,g 151,g 152,g 153,g 154,g 155,g 156,g 157,g 158,g 159,g 160,g 161,g 162,g 163,g 164,g 165,g 166,g 167,g 168,g 169,g 170,g 171,g 172,g 173,g 174],[]⟩) fun u'=>u'=u.alloc (.cells #[.slice a0 n0 k0,.slice a1 n1 k1,.slice a2 n2 k2] 32)))
   ⟨#[.slice a L.length c,.int .i64 ch,.slice b chs.length d,.slice ea more.length ec,.int .u8 (fi:Int),f 5,f 6,f 7,f 8,f 9,.bool false,f 11,f 12,f 13,f 14,f 15,f 16,f 17,f 18,f 19,.slice l1 m lc,.int .i64 (k:Int),f 22,f 23,f 24,f 25,f 26,f 27,f 28,f 29,f 30,f 31,f 32,f 33,f 34,f 35,f 36,f 37,f 38,f 39,f 40,f 41,f 42,f 43,f 44,f 45,f 46,f 47,f 48,f 49,f 50,f 51,f 52,f 53,f 54,f 55,f 56,f 57,f 58,f 59,f 60,f 61,f 62,f 63,f 64,f 65,f 66,f 67,f 68,f 69,f 70,f 71,f 72,f 73,f 74,f 75,f 76,f 77,f 78,f 79,f 80,f 81,f 82,f 83,f 84,f 85,f 86,f 87,f 88,f 89,f 90,f 91,f 92,f 93,f 94,f 95,f 96,f 97,f 98,f 99,f 100,f 101,f 102,f 103,f 104,f 105,f 106,f 107,f 108,f 109,f 110,f 111,f 112,f 113,f 114,f 115,f 116,f 117,f 118,f 119,f 120,f 121,f 122,f 123,f 124,f 125,f 126,f 127,f 128,f 129,.tuple #[.agg #[.slice a0 n0 k0,.slice a1 n1 k1,.slice a2 n2 k2],.int .i64 0],f 131,f 132,f 133,f 134,f 135,f 136,f 137,f 138,f 139,f 140,f 141,f 142,f 143,f 144,f 145,f 146,f 147,f 148,f 149,f 150,f 151,f 152,f 153,f 154,f 155,f 156,f 157,f 158,f 159,f 160,f 161,f 162,f 163,f 164,f 165,f 166,f 167,f 168,f 169,f 170,f 171,f 172,f 173,f 174],[]⟩ u:=by
 refine ItemsWp.tail (k:=7) (l:=opsD.toList.drop 7) rfl rfl ?_
 conv in(occs:= *) opsD=>
  all_goals
   unfold opsD opsR d10 d10 d10 d10 d10 d10 d10 d10 d10 d10 b10
   whnf
 simp only[List.drop_succ_cons,List.drop_zero]
 go_wp2_with fail
 exact⟨exg rfl,rfl⟩
end
end
end Go.Side
