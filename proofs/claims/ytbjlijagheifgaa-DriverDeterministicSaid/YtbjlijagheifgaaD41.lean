/-
  Texts of Ytbjlijagheifgaa, merged.
-/
import Derived.Test.YtbjlijagheifgaaD40
import Derived.Test.YtbjlijagheifgaaD38
set_option linter.unusedSimpArgs false
set_option linter.unusedVariables false
namespace Go.Proofs.Ytbjlijagheifgaa
section
open Go.RowKit Go.Side Go.ChangeShapes Go.WideShapes Go.ChangeAt
section
variable {H:Type} {enc:TypeId×Value→H} {P:Program} {w:World} {held:Bool}
theorem trod_struct4{t:TypeId}{f0 f1 f2 f3:Field}{fuel:Nat}{cs:List Value}{x:DataW H×List MemPlace}(ht:P.underlying t=some (.struct #[f0,f1,f2,f3]))(h:DataW.trod enc P w 0 (fun _=>true) held fuel t cs=some x):
  ∃y0 y1 y2 y3 n,cs.length=P.cellsOf t∧DataW.trod enc P w 0 (fun _=>true) held n f0.type ((cs.drop f0.offset).take (P.cellsOf f0.type))=some y0∧
   DataW.trod enc P w 0 (fun _=>true) held n f1.type ((cs.drop f1.offset).take (P.cellsOf f1.type))=some y1∧DataW.trod enc P w 0 (fun _=>true) held n f2.type ((cs.drop f2.offset).take (P.cellsOf f2.type))=some y2∧
   DataW.trod enc P w 0 (fun _=>true) held n f3.type ((cs.drop f3.offset).take (P.cellsOf f3.type))=some y3:=by
 obtain⟨xs,n,_,rfl,hl,hlen,hf⟩:=DataW.trod_struct ht h
 match xs,hlen with
 |[y0,y1,y2,y3],_=>exact⟨y0,y1,y2,y3,n,hl,by simpa using hf 0 f0 rfl,by simpa using hf 1 f1 rfl,by simpa using hf 2 f2 rfl,by simpa using hf 3 f3 rfl⟩
end
section
variable {H:Type} {enc:TypeId×Value→H} {w:World} {held:Bool}
set_option maxRecDepth 100000 in
theorem either_open{n:Nat}{u:Value}{y:DataW H×List MemPlace}(h:DataW.trod enc Try.prog w 0 (fun _=>true) held n 23 [u]=some y):
  ∃a c l,u= .slice a l.length c∧Sl (Value.int .i64) w a l∧l.length≤c∧c≤maxLen:=by
 obtain⟨a,c,l,rfl,s1,_,l1⟩:=sl_open (Value.int .i64) (fun _=>True) Try.underlying23 (by kernel_rfl) (fun n V r hr=>by
  obtain⟨i,h1,_,_⟩:=DataW.trod_int Try.underlying3 hr
  exact⟨i,by simpa using h1,trivial⟩) h
 refine⟨a,c,l,rfl,s1,?_⟩
 rcases Deep.open_slice Try.underlying23 h with⟨e1,_⟩|⟨a',len,cap,m,n,D,Pl,e1,hb,hl,hm,hmm,_,hx⟩
 ·simp only[List.cons.injEq,Value.slice.injEq,and_true] at e1
  obtain⟨_,h2,h3⟩:=e1
  rw[h2,h3];exact⟨Nat.le_refl _,Nat.zero_le _⟩
 ·simp only[List.cons.injEq,Value.slice.injEq,and_true] at e1
  obtain⟨_,h2,h3⟩:=e1
  rw[h2,h3];exact⟨hl,hm⟩
set_option maxRecDepth 100000 in
theorem task_open{n:Nat}{u:Value}{y:DataW H×List MemPlace}(h:DataW.trod enc Try.prog w 0 (fun _=>true) held n 26 [u]=some y):
  ∃t:TkD,u=tkv t∧TkOk w t:=by
 have hs:=Try.underlying29
 have hc:Try.prog.cellsOf 29=4:=by kernel_rfl
 have q1:Try.prog.cellsOf 3=1:=by kernel_rfl
 have q2:Try.prog.cellsOf 23=1:=by kernel_rfl
 rcases Deep.open_slice Try.underlying26 h with⟨e1,_⟩|⟨a,len,cap,m,n,D,Pl,e1,hb,hl,hm,hmm,_,hx⟩
 ·replace e1:=(List.cons.inj e1).1
  exact⟨⟨none,0,[]⟩,e1,fun j x hj=>by simp at hj,by simp,by simp[maxLen],by simp[maxLen]⟩
 ·replace e1:=(List.cons.inj e1).1
  simp only[if_true] at hmm
  subst hmm
  rw[hc] at hx
  obtain⟨B,hB⟩:=Deep.choose_lt (α:=OpD) (n:=m) (p:=fun i y=>w.cell? (a.add (i*4))=some (.int .i64 y.kind)∧w.cell? ((a.add (i*4)).add 1)=some (.int .i64 y.chan)∧w.cell? ((a.add (i*4)).add 2)=some (.int .i64 y.val)∧w.cell? ((a.add (i*4)).add 3)=some y.ev∧OpOk w y) (fun i hi=>by
   obtain⟨cs',g1,g2⟩:=hx i hi
   obtain⟨_,hlen,hcell⟩:=World.cells?_some g1
   obtain⟨y0,y1,y2,y3,n',_,k0,k1,k2,k3⟩:=trod_struct4 hs g2
   match cs',hlen with
   |[u0,u1,u2,u3],_=>
    have k0':DataW.trod enc Try.prog w 0 (fun _=>true) held n' 3 [u0]=some y0:=by
     have:=k0;rw[q1] at this;exact this
    have k1':DataW.trod enc Try.prog w 0 (fun _=>true) held n' 3 [u1]=some y1:=by
     have:=k1;rw[q1] at this;exact this
    have k2':DataW.trod enc Try.prog w 0 (fun _=>true) held n' 3 [u2]=some y2:=by
     have:=k2;rw[q1] at this;exact this
    have k3':DataW.trod enc Try.prog w 0 (fun _=>true) held n' 23 [u3]=some y3:=by
     have:=k3;rw[q2] at this;exact this
    obtain⟨m0,r0,_,j0⟩:=DataW.trod_int Try.underlying3 k0'
    obtain⟨m1,r1,_,j1⟩:=DataW.trod_int Try.underlying3 k1'
    obtain⟨m2,r2,_,j2⟩:=DataW.trod_int Try.underlying3 k2'
    obtain⟨ea,ec,el,rfl,s1,s2,s3⟩:=either_open k3'
    simp at r0 r1 r2
    subst r0 r1 r2
    have z0:=hcell 0 (by omega)
    have z1:=hcell 1 (by omega)
    have z2:=hcell 2 (by omega)
    have z3:=hcell 3 (by omega)
    exact⟨⟨m0,m1,m2,ea,ec,el⟩,by simpa[Addr.add] using z0,by simpa using z1,by simpa using z2,by simpa[OpD.ev] using z3,s1,by show el.length≤maxLen;omega,s2,s3⟩)
  refine⟨⟨some a,m,(List.range len).map B⟩,by rw[e1];simp[tkv],?_,?_,by simp;omega,by simp;omega⟩
  ·intro j y hj
   simp only[List.getElem?_map] at hj
   obtain⟨i,hi,rfl⟩:=Option.map_eq_some_iff.1 hj
   have hlt:j<len:=by
    rcases Nat.lt_or_ge j len with h|h
    ·exact h
    ·rw[List.getElem?_eq_none (by simpa using h)] at hi;simp at hi
   rw[List.getElem?_range hlt] at hi
   obtain rfl:=Option.some.inj hi
   have hsp:a.spot.isNone=true:=by
    have h0:=(hB 0 (by omega)).1
    have:a.spot=none:=by simpa[Addr.add] using World.cell?_spot h0
    simp[this]
   obtain⟨b0,b1,b2,b3,_⟩:=hB j (by omega)
   have ea:∀j,a.add j=adr (some a) j:=fun j=>add_eq a j hsp
   rw[ea] at b0
   rw[ea,adr_add] at b1 b2 b3
   exact⟨hsp,b0,b1,b2,b3⟩
  ·intro y hy
   obtain⟨i,hi,rfl⟩:=List.mem_map.1 hy
   exact(hB i (by have:=List.mem_range.1 hi;omega)).2.2.2.2
set_option maxRecDepth 100000 in
theorem tk_open{v:Value}{d:DataW H}{ps:List MemPlace}(h:DataW.Trod enc Try.prog w 0 (fun _=>true) held 25 v d ps)(hv0:Value.okWide Try.prog w .any 0 25 v):
  ∃a c xs,v= .slice a xs.length c∧SlT w a xs∧(∀t∈xs,True)∧xs.length≤maxLen:=by
 obtain⟨fuel,hf⟩:=h
 obtain⟨a0,n0,c0,rfl⟩:=okWide_slice Try.underlying25 hv0
 obtain⟨a,c,xs,h1,h2,h3,h4⟩:=sl_open tkv (TkOk w) Try.underlying25 (by kernel_rfl) (fun n V r hr=>task_open hr) hf
 exact⟨a,c,xs,h1,fun j t hj=>⟨(h2 j t hj).1,(h2 j t hj).2,h3 t (List.mem_of_getElem? hj)⟩,fun _ _=>trivial,h4⟩
end
end
end Go.Proofs.Ytbjlijagheifgaa
namespace Go.Side
section
open Go Go.Conc Go.ConcN Go.Proofs Go.RowKit Go.Proofs.Ytbjlijagheifgaa
theorem sbd_fr{P:Program}{Shun:Loc→Prop}{Qm:Machine→Trace→Prop}{b:Frame}{a:Act}{k:List Item}{cs:List Frame}{w:World}{nx:(Nat→Value)→Act}(h:a=nx fun i=>a.tmps.getD i undef)(kk:∀g,SB P Shun Qm (G (b.at (nx g) k) cs) w):SB P Shun Qm (G (b.at a k) cs) w:=by
 rw[h]
 exact kk _
theorem qnd_exit{R:Act→World→Prop}{e:Exit}{a':Act}{u':World}(h:QNd R e a' u'):e= .normal∨e= .ret:=by cases e<;>first|exact .inl rfl|exact h.elim
theorem mp_ext{u u':World}{b n:Nat}{F:Int→Option Nat}(h:MpAt u b n F)(e:Ext u u'):MpAt u' b n F:=by
 obtain⟨D,⟨es,clock,hb,r⟩,h2⟩:=h
 exact⟨D,⟨es,clock,e.all _ _ hb,r⟩,h2⟩
section
variable {a b ea:Option Addr} {c d ec:Nat} {L:List TkD} {ch:Int} {chs more:List Int}
set_option maxRecDepth 100000 in
set_option maxHeartbeats 4000000 in
theorem det_in(W:World)(f:Nat→Value)(hs:SlT W a L)(hp:Sl (Value.int .i64) W b chs)(hq:Sl (Value.int .i64) W ea more)(hl:L.length≤maxLen)(hl2:chs.length≤maxLen)(hl3:more.length≤maxLen):
  SB Try.prog (fun _=>False) (EndM Try.prog fun v w'=>v= .bool true∧Stood W w') (G ((base 9).at ⟨#[.slice a L.length c,.int .i64 ch,.slice b chs.length d,.slice ea more.length ec,f 4,f 5,f 6,f 7,f 8,f 9,f 10,f 11,f 12,f 13,f 14,f 15,f 16,f 17,f 18,f 19,f 20,f 21,f 22,f 23,f 24,f 25,f 26,f 27,f 28,f 29,f 30,f 31,f 32,f 33,f 34,f 35,f 36,f 37,f 38,f 39,f 40,f 41,f 42,f 43,f 44,f 45,f 46,f 47,f 48,f 49,f 50,f 51,f 52,f 53,f 54,f 55,f 56,f 57,f 58,f 59,f 60,f 61,f 62,f 63,f 64,f 65,f 66,f 67,f 68,f 69,f 70,f 71,f 72,f 73,f 74,f 75,f 76,f 77,f 78,f 79,f 80,f 81,f 82,f 83,f 84,f 85,f 86,f 87,f 88,f 89,f 90,f 91,f 92,f 93,f 94,f 95,f 96,f 97,f 98,f 99,f 100,f 101,f 102,f 103,f 104,f 105,f 106,f 107,f 108,f 109,f 110,f 111,f 112,f 113,f 114,f 115,f 116,f 117,f 118,f 119,f 120,f 121,f 122,f 123,f 124,f 125,f 126,f 127,f 128],[]⟩ [.code b9]) []) W:=by
 rw[b9_eq]
 refine law_start (q:=22) (a1:=⟨#[.slice a L.length c,.int .i64 ch,.slice b chs.length d,.slice ea more.length ec,f 4,f 5,f 6,f 7,.bool false,f 9,f 10,f 11,f 12,f 13,f 14,f 15,f 16,f 17,f 18,f 19,f 20,f 21,f 22,f 23,f 24,f 25,f 26,f 27,f 28,f 29,f 30,f 31,f 32,f 33,f 34,f 35,f 36,f 37,f 38,f 39,f 40,f 41,f 42,f 43,f 44,f 45,f 46,f 47,f 48,f 49,f 50,f 51,f 52,f 53,f 54,f 55,f 56,f 57,f 58,f 59,f 60,f 61,f 62,f 63,f 64,f 65,f 66,f 67,f 68,f 69,f 70,f 71,f 72,f 73,f 74,f 75,f 76,f 77,f 78,f 79,f 80,f 81,f 82,f 83,f 84,f 85,f 86,f 87,f 88,f 89,f 90,f 91,f 92,f 93,f 94,f 95,f 96,f 97,f 98,f 99,f 100,f 101,f 102,f 103,f 104,f 105,f 106,f 107,f 108,f 109,f 110,f 111,f 112,f 113,f 114,f 115,f 116,f 117,f 118,f 119,f 120,f 121,f 122,f 123,f 124,f 125,f 126,f 127,f 128],[]⟩) (a2:=⟨#[.slice a L.length c,.int .i64 ch,.slice b chs.length d,.slice ea more.length ec,f 4,f 5,f 6,f 7,.bool false,f 9,f 10,f 11,f 12,f 13,f 14,f 15,f 16,f 17,f 18,f 19,f 20,f 21,.bool true,.bool false,f 24,f 25,f 26,f 27,f 28,f 29,f 30,f 31,f 32,f 33,f 34,f 35,f 36,f 37,f 38,f 39,f 40,f 41,f 42,f 43,f 44,f 45,f 46,f 47,f 48,f 49,f 50,f 51,f 52,f 53,f 54,f 55,f 56,f 57,f 58,f 59,f 60,f 61,f 62,f 63,f 64,f 65,f 66,f 67,f 68,f 69,f 70,f 71,f 72,f 73,f 74,f 75,f 76,f 77,f 78,f 79,f 80,f 81,f 82,f 83,f 84,f 85,f 86,f 87,f 88,f 89,f 90,f 91,f 92,f 93,f 94,f 95,f 96,f 97,f 98,f 99,f 100,f 101,f 102,f 103,f 104,f 105,f 106,f 107,f 108,f 109,f 110,f 111,f 112,f 113,f 114,f 115,f 116,f 117,f 118,f 119,f 120,f 121,f 122,f 123,f 124,f 125,f 126,f 127,f 128],[]⟩) ⟨_,Try.func9⟩ (show ops9[0]?=some _ from rfl) rfl rfl rfl rfl rfl rfl q9_0 q9_1 (fun u=>wq9_0 u f) (fun u=>wq9_1 u f) (fun Shun' w' K=>?_)
 have H:=gait_b Try.prog Shun' (EndM Try.prog fun v w'=>v= .bool true∧Stood W w')
 have hk0:(base 9).kind≠ .early:=by decide
 refine sbd_fr (nx:=fun g=>⟨#[.slice a L.length c,.int .i64 ch,.slice b chs.length d,.slice ea more.length ec,g 4,g 5,g 6,g 7,.bool false,g 9,g 10,g 11,g 12,g 13,g 14,g 15,g 16,g 17,g 18,g 19,g 20,g 21,g 22,g 23,g 24,g 25,g 26,g 27,g 28,g 29,g 30,g 31,g 32,g 33,g 34,g 35,g 36,g 37,g 38,g 39,g 40,g 41,g 42,g 43,g 44,g 45,g 46,g 47,g 48,g 49,g 50,g 51,g 52,g 53,g 54,g 55,g 56,g 57,g 58,g 59,g 60,g 61,g 62,g 63,g 64,g 65,g 66,g 67,g 68,g 69,g 70,g 71,g 72,g 73,g 74,g 75,g 76,g 77,g 78,g 79,g 80,g 81,g 82,g 83,g 84,g 85,g 86,g 87,g 88,g 89,g 90,g 91,g 92,g 93,g 94,g 95,g 96,g 97,g 98,g 99,g 100,g 101,g 102,g 103,g 104,g 105,g 106,g 107,g 108,g 109,g 110,g 111,g 112,g 113,g 114,g 115,g 116,g 117,g 118,g 119,g 120,g 121,g 122,g 123,g 124,g 125,g 126,g 127,g 128],[]⟩) rfl fun g=>?_
 rw[d9_seq 0 (by decide)]
 refine SB.into (H.seq (n:=0) (Kn.out K law_ext fun w₁ K₁=>?_))
 refine K₁.lone (items:=[.code (fstOf (d9 0))]) (k:=[.code (d9 1)]) lawOK ⟨_,Try.func9⟩ rfl p9_0 rfl (Q:=fun u=>GdQ 8 u ((greatB L=false∧chs.length≤300∧more.length≤300)∧validT ch L=true) fun a'=>∃g:Nat→Value,a'=⟨#[.slice a L.length c,.int .i64 ch,.slice b chs.length d,.slice ea more.length ec,g 4,g 5,g 6,g 7,.bool false,g 9,g 10,g 11,g 12,g 13,g 14,g 15,g 16,g 17,g 18,g 19,g 20,g 21,g 22,g 23,g 24,g 25,g 26,g 27,g 28,g 29,g 30,g 31,g 32,g 33,g 34,g 35,g 36,g 37,g 38,g 39,g 40,g 41,g 42,g 43,g 44,g 45,g 46,g 47,g 48,g 49,g 50,g 51,g 52,g 53,g 54,g 55,g 56,g 57,g 58,g 59,g 60,g 61,g 62,g 63,g 64,g 65,g 66,g 67,g 68,g 69,g 70,g 71,g 72,g 73,g 74,g 75,g 76,g 77,g 78,g 79,g 80,g 81,g 82,g 83,g 84,g 85,g 86,g 87,g 88,g 89,g 90,g 91,g 92,g 93,g 94,g 95,g 96,g 97,g 98,g 99,g 100,g 101,g 102,g 103,g 104,g 105,g 106,g 107,g 108,g 109,g 110,g 111,g 112,g 113,g 114,g 115,g 116,g 117,g 118,g 119,g 120,g 121,g 122,g 123,g 124,g 125,g 126,g 127,g 128],[]⟩)
  (fun u e a' u' h=>h.2.elim (fun h=>.inr h.1) (fun h=>.inl h.1)) (fun u hu=>ItemsWp.code (wp9_0 u g (slT_ext hs hu) hl hl2 hl3)) (fun u a' u' w2 hu h _ gen=>?_) (fun u a' u' w2 todo hu h hd gen=>?_)
 rotate_left
 ·rcases h.2 with⟨_,h6⟩|⟨h0,_⟩
  ·exact sb_ends (gen _ law_ext (hu.trans (Ext.below h.1))) Try.func9 rfl hd rfl (by kernel_rfl) h6
  ·cases h0
 obtain⟨hb,⟨h0,_⟩|⟨_,⟨⟨hg,hc,hm⟩,hv⟩,g1,ha⟩⟩:=h
 ·cases h0
 subst ha
 have K₂:=gen _ law_ext (hu.trans (Ext.below hb))
 clear gen hu hb K K₁ w₁ w' g
 obtain⟨l8, -⟩:=det_valid hv
 obtain⟨-,gt⟩:=great_small hg
 have hel:∀t∈L,∀x∈t.ops,x.el.length≤1000000:=fun t ht x hx=>by have:=(gt t ht).2 x hx;omega
 rw[d9_seq 1 (by decide)]
 refine SB.into (H.seq (n:=0) (Kn.out K₂ law_ext fun w₁ K₁=>?_))
 refine K₁.loneM (items:=[.code (fstOf (d9 1))]) (k:=[.code (d9 2)]) noOK ⟨_,Try.func9⟩ rfl p9_1 rfl (Q:=fun u=>QNd (Fr9 (fun g=>⟨#[.slice a L.length c,.int .i64 ch,.slice b chs.length d,.slice ea more.length ec,g 4,g 5,g 6,g 7,.bool false,.map (some u.heap.size),.map (some (u.heap.size+1)),g 11,g 12,g 13,g 14,g 15,g 16,g 17,g 18,g 19,g 20,g 21,g 22,g 23,g 24,g 25,g 26,g 27,g 28,g 29,g 30,g 31,g 32,g 33,g 34,g 35,g 36,g 37,g 38,g 39,g 40,g 41,g 42,g 43,g 44,g 45,g 46,g 47,g 48,g 49,g 50,g 51,g 52,g 53,g 54,g 55,g 56,g 57,g 58,g 59,g 60,g 61,g 62,g 63,g 64,g 65,g 66,g 67,g 68,g 69,g 70,g 71,g 72,g 73,g 74,g 75,g 76,g 77,g 78,g 79,g 80,g 81,g 82,g 83,g 84,g 85,g 86,g 87,g 88,g 89,g 90,g 91,g 92,g 93,g 94,g 95,g 96,g 97,g 98,g 99,g 100,g 101,g 102,g 103,g 104,g 105,g 106,g 107,g 108,g 109,g 110,g 111,g 112,g 113,g 114,g 115,g 116,g 117,g 118,g 119,g 120,g 121,g 122,g 123,g 124,g 125,g 126,g 127,g 128],[]⟩) fun u'=>u'=(u.alloc (.map #[] 0)).alloc (.map #[] 0)))
  (fun u e a' u' h=>qnd_exit h) (fun u hu=>ItemsWp.code (wp9_1 u g1)) (fun u a' u' w' hu h _ gen=>?_) (fun u a' u' w' todo _ h=>h.elim)
 obtain⟨⟨g2,ha⟩,hw⟩:=h
 subst ha
 have hsz:(u.alloc (.map #[] 0)).heap.size=u.heap.size+1:=by simp
 have hE:Ext u u':=by
  rw[hw]
  exact(Ext.below ((Below.refl u.heap.size u).alloc (Nat.le_refl _) _)).trans (Ext.below ((Below.refl (u.alloc (.map #[] 0)).heap.size (u.alloc (.map #[] 0))).alloc (Nat.le_refl _) _))
 have hA:MpAt u' u.heap.size 0 fun _=>none:=by
  rw[hw]
  exact(MpAt.made u).below ((Below.refl _ _).alloc (Nat.le_refl _) _)
 have hB:MpAt u' (u.heap.size+1) 0 fun _=>none:=by
  rw[hw,←hsz]
  exact MpAt.made _
 have hN:W.heap.size≤u.heap.size:=hu.size
 have hF:∀p q,ExtC (fun x=>Ext W x∧MpAt x p 0 (fun _=>none)∧MpAt x q 0 fun _=>none):=fun p q x y e h=>⟨h.1.trans e,mp_ext h.2.1 e,mp_ext h.2.2 e⟩
 have K₃:=gen _ (hF u.heap.size (u.heap.size+1)) ⟨hu.trans hE,hA,hB⟩
 clear gen hu K₁ K₂ hE hA hB hw hsz
 generalize u.heap.size=p at*
 have hF:=hF p (p+1)
 rw[d9_seq 2 (by decide)]
 refine SB.into (H.seq (n:=0) (Kn.out K₃ hF fun w₁ K₁=>?_))
 refine K₁.loneM (items:=[.code (fstOf (d9 2))]) (k:=[.code (d9 3)]) noOK ⟨_,Try.func9⟩ rfl p9_2 rfl (Q:=fun u=>GdX 8 W (NoRace L) fun a'=>∃g:Nat→Value,a'=⟨#[.slice a L.length c,.int .i64 ch,.slice b chs.length d,.slice ea more.length ec,g 4,g 5,g 6,g 7,g 8,g 9,g 10,g 11,g 12,g 13,g 14,g 15,g 16,g 17,g 18,g 19,g 20,g 21,g 22,g 23,g 24,g 25,g 26,g 27,g 28,g 29,g 30,g 31,g 32,g 33,g 34,g 35,g 36,g 37,g 38,g 39,g 40,g 41,g 42,g 43,g 44,g 45,g 46,g 47,g 48,g 49,g 50,g 51,g 52,g 53,g 54,g 55,g 56,g 57,g 58,g 59,g 60,g 61,g 62,g 63,g 64,g 65,g 66,g 67,g 68,g 69,g 70,g 71,g 72,g 73,g 74,g 75,g 76,g 77,g 78,g 79,g 80,g 81,g 82,g 83,g 84,g 85,g 86,g 87,g 88,g 89,g 90,g 91,g 92,g 93,g 94,g 95,g 96,g 97,g 98,g 99,g 100,g 101,g 102,g 103,g 104,g 105,g 106,g 107,g 108,g 109,g 110,g 111,g 112,g 113,g 114,g 115,g 116,g 117,g 118,g 119,g 120,g 121,g 122,g 123,g 124,g 125,g 126,g 127,g 128],[]⟩)
  (fun u e a' u' h=>h.2.elim (fun h=>.inr h.1) (fun h=>.inl h.1)) (fun u hu=>ItemsWp.code (wp9_2 W u g2 p (p+1) hs hu.1 hN (by omega) (by omega) hu.2.1 hu.2.2 hv)) (fun u a' u' w2 hu h _ gen=>?_) (fun u a' u' w2 todo hu h hd gen=>?_)
 rotate_left
 ·rcases h.2 with⟨_,h6⟩|⟨h0,_⟩
  ·exact sb_ends (gen _ law_ext h.1) Try.func9 rfl hd rfl (by kernel_rfl) h6
  ·cases h0
 obtain⟨hE,⟨h0,_⟩|⟨_,NR,g3,ha⟩⟩:=h
 ·cases h0
 subst ha
 have K₄:=gen _ law_ext hE
 clear gen hu hE K₁ K₃ hF hN
 rw[d9_seq 3 (by decide),d9_3]
 refine SB.into (H.seq (n:=4) ?_)
 refine H.region (n:=3) ?_
 rw[show List.range opsX.size=[0,1,2,3,4,5,6,7,8,9] from rfl]
 refine H.pure (n:=2) _ (show opsX[0]?=some _ from rfl) (by rfl) hk0 (fun _=>rfl) (fun _=>rfl) ?_
 refine H.pure (n:=1) _ (show opsX[1]?=some _ from rfl) (by rfl) hk0 (fun _=>rfl) (fun _=>rfl) ?_
 refine H.pure (n:=0) _ (show opsX[2]?=some _ from rfl) (by rfl) hk0 (fun _=>rfl) (fun _=>rfl) (Kn.out K₄ law_ext fun w₅ K₅=>?_)
 change SB Try.prog Shun' _ (G ((base 9).at ⟨#[.slice a L.length c,.int .i64 ch,.slice b chs.length d,.slice ea more.length ec,g3 4,g3 5,g3 6,g3 7,g3 8,g3 9,g3 10,g3 11,g3 12,g3 13,g3 14,g3 15,g3 16,g3 17,g3 18,g3 19,g3 20,g3 21,g3 22,g3 23,g3 24,g3 25,g3 26,g3 27,g3 28,g3 29,g3 30,g3 31,g3 32,g3 33,g3 34,g3 35,g3 36,g3 37,g3 38,g3 39,g3 40,g3 41,g3 42,g3 43,g3 44,g3 45,g3 46,g3 47,g3 48,g3 49,g3 50,g3 51,g3 52,g3 53,g3 54,g3 55,g3 56,g3 57,g3 58,g3 59,g3 60,g3 61,g3 62,g3 63,g3 64,g3 65,g3 66,g3 67,g3 68,g3 69,g3 70,g3 71,g3 72,g3 73,g3 74,g3 75,g3 76,g3 77,g3 78,g3 79,g3 80,g3 81,g3 82,g3 83,g3 84,g3 85,g3 86,.slice a L.length c,.int .i64 ch,.slice b chs.length d,g3 90,g3 91,g3 92,g3 93,g3 94,g3 95,g3 96,g3 97,g3 98,g3 99,g3 100,g3 101,g3 102,g3 103,g3 104,g3 105,g3 106,g3 107,g3 108,g3 109,g3 110,g3 111,g3 112,g3 113,g3 114,g3 115,g3 116,g3 117,g3 118,g3 119,g3 120,g3 121,g3 122,g3 123,g3 124,g3 125,g3 126,g3 127,g3 128],[]⟩ (.inRegion opsX [3,4,5,6,7,8,9]::[.code (d9 4)])) []) w₅
 refine law_run K₅ law_ext (fun u e=>e.size) (pt:=a) (ct:=c) (pc:=b) (cc:=d) (L:=L) (ch:=ch) (chs:=chs) (show opsX[3]?=some _ from rfl) rfl rfl rfl rfl rfl (fun u e=>slT_ext hs e) (fun u e=>e.sl hp) hl hel (fun s' S Shun₂ w₆ v0 v1 v2 _ hO K₆=>?_) (fun w' hv0 _=>by rw[hv] at hv0;cases hv0)
 obtain⟨⟨a0,k0,rfl⟩,⟨a1,k1,rfl⟩,a2,k2,rfl⟩:(∃a0 k0,v0= .slice a0 S.length k0)∧(∃a1 k1,v1= .slice a1 (sumsA L s').length k1)∧∃a2 k2,v2= .slice a2 (stuckA L s').length k2:=by
  obtain⟨ux,Vx⟩:=View.ex K₆.sh
  obtain⟨⟨a0,k0,e0,_⟩,⟨a1,k1,e1,_⟩,⟨a2,k2,e2,_⟩⟩:=(K₆.all ux Vx).2
  exact⟨⟨a0,k0,e0⟩,⟨a1,k1,e1⟩,a2,k2,e2⟩
 clear H K₄ K₅
 have H:=gait_b Try.prog Shun₂ (EndM Try.prog fun v w'=>v= .bool true∧Stood W w')
 change SB Try.prog Shun₂ _ (G ((base 9).at ⟨#[.slice a L.length c,.int .i64 ch,.slice b chs.length d,.slice ea more.length ec,g3 4,g3 5,g3 6,g3 7,g3 8,g3 9,g3 10,g3 11,g3 12,g3 13,g3 14,g3 15,g3 16,g3 17,g3 18,g3 19,g3 20,g3 21,g3 22,g3 23,g3 24,g3 25,g3 26,g3 27,g3 28,g3 29,g3 30,g3 31,g3 32,g3 33,g3 34,g3 35,g3 36,g3 37,g3 38,g3 39,g3 40,g3 41,g3 42,g3 43,g3 44,g3 45,g3 46,g3 47,g3 48,g3 49,g3 50,g3 51,g3 52,g3 53,g3 54,g3 55,g3 56,g3 57,g3 58,g3 59,g3 60,g3 61,g3 62,g3 63,g3 64,g3 65,g3 66,g3 67,g3 68,g3 69,g3 70,g3 71,g3 72,g3 73,g3 74,g3 75,g3 76,g3 77,g3 78,g3 79,g3 80,g3 81,g3 82,g3 83,g3 84,g3 85,g3 86,.slice a L.length c,.int .i64 ch,.slice b chs.length d,.tuple #[.agg #[.slice a0 S.length k0,.slice a1 (sumsA L s').length k1,.slice a2 (stuckA L s').length k2],.int .i64 0],g3 91,g3 92,g3 93,g3 94,g3 95,g3 96,g3 97,g3 98,g3 99,g3 100,g3 101,g3 102,g3 103,g3 104,g3 105,g3 106,g3 107,g3 108,g3 109,g3 110,g3 111,g3 112,g3 113,g3 114,g3 115,g3 116,g3 117,g3 118,g3 119,g3 120,g3 121,g3 122,g3 123,g3 124,g3 125,g3 126,g3 127,g3 128],[]⟩ (.inRegion opsX [4,5,6,7,8,9]::[.code (d9 4)])) []) w₆
 refine sbd_fr (nx:=fun g=>⟨#[.slice a L.length c,.int .i64 ch,.slice b chs.length d,.slice ea more.length ec,g 4,g 5,g 6,g 7,g 8,g 9,g 10,g 11,g 12,g 13,g 14,g 15,g 16,g 17,g 18,g 19,g 20,g 21,g 22,g 23,g 24,g 25,g 26,g 27,g 28,g 29,g 30,g 31,g 32,g 33,g 34,g 35,g 36,g 37,g 38,g 39,g 40,g 41,g 42,g 43,g 44,g 45,g 46,g 47,g 48,g 49,g 50,g 51,g 52,g 53,g 54,g 55,g 56,g 57,g 58,g 59,g 60,g 61,g 62,g 63,g 64,g 65,g 66,g 67,g 68,g 69,g 70,g 71,g 72,g 73,g 74,g 75,g 76,g 77,g 78,g 79,g 80,g 81,g 82,g 83,g 84,g 85,g 86,g 87,g 88,g 89,.tuple #[.agg #[.slice a0 S.length k0,.slice a1 (sumsA L s').length k1,.slice a2 (stuckA L s').length k2],.int .i64 0],g 91,g 92,g 93,g 94,g 95,g 96,g 97,g 98,g 99,g 100,g 101,g 102,g 103,g 104,g 105,g 106,g 107,g 108,g 109,g 110,g 111,g 112,g 113,g 114,g 115,g 116,g 117,g 118,g 119,g 120,g 121,g 122,g 123,g 124,g 125,g 126,g 127,g 128],[]⟩) rfl fun g=>?_
 refine K₆.lone (items:=[.inRegion opsX [4,5,6,7,8,9]]) (k:=[.code (d9 4)]) lawOK ⟨_,Try.func9⟩ rfl p9_3 rfl (Q:=fun u=>QNd (Fr9 (fun g=>⟨#[.slice a L.length c,.int .i64 ch,.slice b chs.length d,.slice ea more.length ec,g 4,g 5,g 6,g 7,g 8,g 9,g 10,g 11,g 12,g 13,g 14,g 15,g 16,g 17,.pointer (some ⟨u.heap.size,0,none⟩),.int .i64 0,g 20,g 21,g 22,g 23,g 24,g 25,g 26,g 27,g 28,g 29,g 30,g 31,g 32,g 33,g 34,g 35,g 36,g 37,g 38,g 39,g 40,g 41,g 42,g 43,g 44,g 45,g 46,g 47,g 48,g 49,g 50,g 51,g 52,g 53,g 54,g 55,g 56,g 57,g 58,g 59,g 60,g 61,g 62,g 63,g 64,g 65,g 66,g 67,g 68,g 69,g 70,g 71,g 72,g 73,g 74,g 75,g 76,g 77,g 78,g 79,g 80,g 81,g 82,g 83,g 84,g 85,g 86,g 87,g 88,g 89,g 90,g 91,g 92,g 93,g 94,g 95,g 96,g 97,g 98,g 99,g 100,g 101,g 102,g 103,g 104,g 105,g 106,g 107,g 108,g 109,g 110,g 111,g 112,g 113,g 114,g 115,g 116,g 117,g 118,g 119,g 120,g 121,g 122,g 123,g 124,g 125,g 126,g 127,g 128],[]⟩) fun u'=>u'=u.alloc (.cells #[.slice a0 S.length k0,.slice a1 (sumsA L s').length k1,.slice a2 (stuckA L s').length k2] 32)))
  (fun u e a' u' h=>qnd_exit h) (fun u hu=>wp9_3 u g a0 a1 a2 S.length (sumsA L s').length (stuckA L s').length k0 k1 k2) (fun u a' u' w₇ hu h _ gen=>?_) (fun u a' u' w' todo _ h=>h.elim)
 obtain⟨⟨g4,ha⟩,hu'⟩:=h
 subst ha
 subst hu'
 have hF₁:∀p,ExtC (fun u=>Ext W u∧RunRes u (.slice a0 S.length k0) (.slice a1 (sumsA L s').length k1) (.slice a2 (stuckA L s').length k2) S (sumsA L s') (stuckA L s')∧Blk u p 32 [.slice a0 S.length k0,.slice a1 (sumsA L s').length k1,.slice a2 (stuckA L s').length k2]):=fun p x y e h=>⟨h.1.trans e,h.2.1.ext e,e.blk _ _ _ _ h.2.2⟩
 have ex:=Ext.below ((Below.refl u.heap.size u).alloc (Nat.le_refl _) (.cells #[.slice a0 S.length k0,.slice a1 (sumsA L s').length k1,.slice a2 (stuckA L s').length k2] 32))
 have K₇:=gen _ (hF₁ u.heap.size) ⟨hu.1.trans ex,hu.2.ext ex,Blk.new u _ _⟩
 clear gen hu ex K₆
 generalize u.heap.size=p at*
 replace hF₁:=hF₁ p
 rw[d9_seq 4 (by decide),d9_4]
 refine SB.into (H.seq (n:=4) ?_)
 refine H.region (n:=3) ?_
 rw[show List.range opsY.size=[0,1,2,3,4,5,6,7,8,9] from rfl]
 refine H.pure (n:=2) _ (show opsY[0]?=some _ from rfl) (by rfl) hk0 (fun _=>rfl) (fun _=>rfl) ?_
 refine H.pure (n:=1) _ (show opsY[1]?=some _ from rfl) (by rfl) hk0 (fun _=>rfl) (fun _=>rfl) ?_
 refine H.pure (n:=0) _ (show opsY[2]?=some _ from rfl) (by rfl) hk0 (fun _=>rfl) (fun _=>rfl) (Kn.out K₇ hF₁ fun w₈ K₈=>?_)
 change SB Try.prog Shun₂ _ (G ((base 9).at ⟨#[.slice a L.length c,.int .i64 ch,.slice b chs.length d,.slice ea more.length ec,g4 4,g4 5,g4 6,g4 7,g4 8,g4 9,g4 10,g4 11,g4 12,g4 13,g4 14,g4 15,g4 16,g4 17,.pointer (some ⟨p,0,none⟩),.int .i64 0,g4 20,g4 21,g4 22,g4 23,g4 24,g4 25,g4 26,g4 27,g4 28,g4 29,g4 30,g4 31,g4 32,g4 33,g4 34,g4 35,g4 36,g4 37,g4 38,g4 39,g4 40,g4 41,g4 42,g4 43,g4 44,g4 45,g4 46,g4 47,g4 48,g4 49,g4 50,g4 51,g4 52,g4 53,g4 54,g4 55,g4 56,g4 57,g4 58,g4 59,g4 60,g4 61,g4 62,g4 63,g4 64,g4 65,g4 66,g4 67,g4 68,g4 69,g4 70,g4 71,g4 72,g4 73,g4 74,g4 75,g4 76,g4 77,g4 78,g4 79,g4 80,g4 81,g4 82,g4 83,g4 84,g4 85,g4 86,g4 87,g4 88,g4 89,g4 90,g4 91,g4 92,g4 93,.slice a L.length c,.int .i64 ch,.slice ea more.length ec,g4 97,g4 98,g4 99,g4 100,g4 101,g4 102,g4 103,g4 104,g4 105,g4 106,g4 107,g4 108,g4 109,g4 110,g4 111,g4 112,g4 113,g4 114,g4 115,g4 116,g4 117,g4 118,g4 119,g4 120,g4 121,g4 122,g4 123,g4 124,g4 125,g4 126,g4 127,g4 128],[]⟩ (.inRegion opsY [3,4,5,6,7,8,9]::[.code (d9 5)])) []) w₈
 refine law_run K₈ hF₁ (fun u h=>h.1.size) (pt:=a) (ct:=c) (pc:=ea) (cc:=ec) (L:=L) (ch:=ch) (chs:=more) (show opsY[3]?=some _ from rfl) rfl rfl rfl rfl rfl (fun u h=>slT_ext hs h.1) (fun u h=>h.1.sl hq) hl hel (fun s2 S2 Shun₃ w₉ x0 x1 x2 _ hO2 K₉=>?_) (fun w' hv0 _=>by rw[hv] at hv0;cases hv0)
 obtain⟨rfl,hlen⟩:=outc_same2 NR hO hO2
 have hls:(sumsA L s').length=L.length:=by simp[sumsA]
 have hlt:(stuckA L s').length≤L.length:=by
  have:=List.length_filter_le (fun k=>(offS L s' k).isSome) (List.range L.length)
  simpa[stuckA] using this
 change SB Try.prog Shun₃ _ (G ((base 9).at ⟨#[.slice a L.length c,.int .i64 ch,.slice b chs.length d,.slice ea more.length ec,g4 4,g4 5,g4 6,g4 7,g4 8,g4 9,g4 10,g4 11,g4 12,g4 13,g4 14,g4 15,g4 16,g4 17,.pointer (some ⟨p,0,none⟩),.int .i64 0,g4 20,g4 21,g4 22,g4 23,g4 24,g4 25,g4 26,g4 27,g4 28,g4 29,g4 30,g4 31,g4 32,g4 33,g4 34,g4 35,g4 36,g4 37,g4 38,g4 39,g4 40,g4 41,g4 42,g4 43,g4 44,g4 45,g4 46,g4 47,g4 48,g4 49,g4 50,g4 51,g4 52,g4 53,g4 54,g4 55,g4 56,g4 57,g4 58,g4 59,g4 60,g4 61,g4 62,g4 63,g4 64,g4 65,g4 66,g4 67,g4 68,g4 69,g4 70,g4 71,g4 72,g4 73,g4 74,g4 75,g4 76,g4 77,g4 78,g4 79,g4 80,g4 81,g4 82,g4 83,g4 84,g4 85,g4 86,g4 87,g4 88,g4 89,g4 90,g4 91,g4 92,g4 93,.slice a L.length c,.int .i64 ch,.slice ea more.length ec,.tuple #[.agg #[x0,x1,x2],.int .i64 0],g4 98,g4 99,g4 100,g4 101,g4 102,g4 103,g4 104,g4 105,g4 106,g4 107,g4 108,g4 109,g4 110,g4 111,g4 112,g4 113,g4 114,g4 115,g4 116,g4 117,g4 118,g4 119,g4 120,g4 121,g4 122,g4 123,g4 124,g4 125,g4 126,g4 127,g4 128],[]⟩ (.inRegion opsY [4,5,6,7,8,9]::[.code (d9 5)])) []) w₉
 refine sbd_fr (nx:=fun g=>⟨#[.slice a L.length c,.int .i64 ch,.slice b chs.length d,.slice ea more.length ec,g 4,g 5,g 6,g 7,g 8,g 9,g 10,g 11,g 12,g 13,g 14,g 15,g 16,g 17,.pointer (some ⟨p,0,none⟩),.int .i64 0,g 20,g 21,g 22,g 23,g 24,g 25,g 26,g 27,g 28,g 29,g 30,g 31,g 32,g 33,g 34,g 35,g 36,g 37,g 38,g 39,g 40,g 41,g 42,g 43,g 44,g 45,g 46,g 47,g 48,g 49,g 50,g 51,g 52,g 53,g 54,g 55,g 56,g 57,g 58,g 59,g 60,g 61,g 62,g 63,g 64,g 65,g 66,g 67,g 68,g 69,g 70,g 71,g 72,g 73,g 74,g 75,g 76,g 77,g 78,g 79,g 80,g 81,g 82,g 83,g 84,g 85,g 86,g 87,g 88,g 89,g 90,g 91,g 92,g 93,g 94,g 95,g 96,.tuple #[.agg #[x0,x1,x2],.int .i64 0],g 98,g 99,g 100,g 101,g 102,g 103,g 104,g 105,g 106,g 107,g 108,g 109,g 110,g 111,g 112,g 113,g 114,g 115,g 116,g 117,g 118,g 119,g 120,g 121,g 122,g 123,g 124,g 125,g 126,g 127,g 128],[]⟩) rfl fun g=>?_
 exact law_tail K₉ (fun u h=>h.1.1) Try.func9 rfl (by kernel_rfl) rfl p9_4 (fun u hu=>finN (wp9_4 u g p _ _ _ x0 x1 x2 S S2 (sumsA L s') (stuckA L s') hu.1.2.2 hu.1.2.1 hu.2 hlen (by omega) (by omega)))
end
theorem frame9(x y z v:Value): #[x,y,z,v]++Array.replicate 125 undef= #[x,y,z,v,undef,undef,undef,undef,undef,undef,undef,undef,undef,undef,undef,undef,undef,undef,undef,undef,undef,undef,undef,undef,undef,undef,undef,undef,undef,undef,undef,undef,undef,undef,undef,undef,undef,undef,undef,undef,undef,undef,undef,undef,undef,undef,undef,undef,undef,undef,undef,undef,undef,undef,undef,undef,undef,undef,undef,undef,undef,undef,undef,undef,undef,undef,undef,undef,undef,undef,undef,undef,undef,undef,undef,undef,undef,undef,undef,undef,undef,undef,undef,undef,undef,undef,undef,undef,undef,undef,undef,undef,undef,undef,undef,undef,undef,undef,undef,undef,undef,undef,undef,undef,undef,undef,undef,undef,undef,undef,undef,undef,undef,undef,undef,undef,undef,undef,undef,undef,undef,undef,undef,undef,undef,undef,undef,undef,undef]:=by kernel_rfl
set_option maxRecDepth 100000 in
theorem driverDeterministic_walk(W:World)(a:Option Addr)(c:Nat)(L:List TkD)(hs:SlT W a L)(_:∀t∈L,True)(hl:L.length≤maxLen)(ch:Int)(_:IntOk .i64 ch)(b:Option Addr)(d:Nat)(chs:List Int)(hp:Sl (Value.int .i64) W b chs)(_:∀y∈chs,IntOk .i64 y)(hl2:chs.length≤maxLen)(ea:Option Addr)(ec:Nat)(more:List Int)(hq:Sl (Value.int .i64) W ea more)(_:∀y∈more,IntOk .i64 y)(hl3:more.length≤maxLen):
  Law Try.prog 9 #[.slice a L.length c,.int .i64 ch,.slice b chs.length d,.slice ea more.length ec] W:=by
 have h:=det_in (a:=a) (c:=c) (L:=L) (ch:=ch) (b:=b) (d:=d) (chs:=chs) (ea:=ea) (ec:=ec) (more:=more) W (fun _=>undef) hs hp hq hl hl2 hl3
 dsimp only at h
 rw[←frame9] at h
 exact sb_law h
end
end Go.Side
