/- Lemmas of the row. -/
import Derived.Test.YtjkgligohegaeaaGreatDoorN19
set_option linter.all false
set_option maxRecDepth 20000
set_option maxHeartbeats 12800000
namespace Go.Proofs.YtjkgligohegaeaaGreatDoor
open Go.RowKit
theorem iFunc:EI 99 3 40 (.agg #[.int .i64 0,.int .i64 0,.slice none 0 0]):=EI.mk (by kernel_rfl) rfl (by omega) (by omega)
theorem iPtr:EI 104 1 8 (.pointer none):=EI.mk (by kernel_rfl) rfl (by omega) (by omega)
def newCells (st:FSt) (lv fp bv:Value):Array Value:=#[.int .i64 st.regs,.int .i64 st.workers,.int .u64 st.t.lease,.int .u64 st.t.wait,.int .u64 st.t.most,.int .i64 st.room,.int .i64 st.box,lv,.int .u64 0,fp,.pointer none,.pointer none,bv]
structure FsFine (fs:List Func):Prop where
 wf:∀ f∈fs,(Lit.int .i64 f.params).wf=true∧(Lit.int .i64 f.vregs).wf=true
 ins:∀ f∈fs,∀ b∈f.blocks,b.ins.length≤1000∧∀ i∈b.ins,i.args.length≤1000
 blocks:∀ f∈fs,f.blocks.length≤1000
def NewPost (w:World) (base:Nat) (st:FSt) (e:Ending) (w':World):Prop :=
 ∃ x ow h jobs,e=.returned (.tuple #[.pointer (some ⟨x,0,none⟩),.int .i64 0])∧Bel w w'∧(∀ b,b < w.heap.size→ow b=if b < base then 1 else 0)∧Farm w' ow x st h (List.replicate (st.workers+1) [])∧FarmUp w' ow st h jobs 0∧jobs=List.replicate st.fs.length Ls.Job.zero
theorem Bx.BoxAt.onlyF {w w':World} {F:Nat→Prop} {p c T room:Nat} {xs:List Value} (h:Bx.BoxAt w p c T room xs) (ho:Only w w' F) (hp:¬F p) (hc:¬F c):Bx.BoxAt w' p c T room xs:=by
 obtain⟨⟨fz,h1⟩,⟨s,r,h2⟩,h3,h4⟩:=h
 exact⟨⟨fz,ho.heap h1 hp⟩,⟨s,r,ho.heap h2 hc⟩,h3,h4⟩
structure Boxes (w:World) (base room:Nat) (bv:Value) (bs:List (Nat × Nat)):Prop where
 at_:∀ i (h:i < bs.length),Bx.BoxAt w bs[i].1 bs[i].2 162 room []
 lo:∀ p∈bs,base≤p.1∧base≤p.2
 pw:bs.Pairwise (λa b=>a.1 < b.1∧a.1 < b.2∧a.2 < b.1∧a.2 < b.2)
 row:∀ p∈bs,bv.ownBlock≠some p.1∧bv.ownBlock≠some p.2
 own:w.ownsRow base 104 1 bv bs.length (bs.map λp=>.pointer (some ⟨p.1,0,none⟩))
theorem Boxes.only {w w':World} {F:Nat→Prop} {base room:Nat} {bv:Value} {bs:List (Nat × Nat)} (h:Boxes w base room bv bs) (ho:Only w w' F) (hF:∀ b,base≤b→b < w.heap.size→¬F b):Boxes w' base room bv bs:=by
 refine⟨λi hi=>?_,h.lo,h.pw,h.row,own_only h.own ho (λb hb=>hF b (h.own.lt b hb).1 (h.own.lt b hb).2)⟩
 have h1:=h.at_ i hi
 have h2:=h.lo _ (List.getElem_mem hi)
 exact h1.onlyF ho (hF _ h2.1 h1.lt) (hF _ h2.2 h1.chan.lt)
theorem Boxes.less {w:World} {base room:Nat} {bv:Value} {bs:List (Nat × Nat)} (h:Boxes w base room bv bs):∀ p∈bs,p.1 < w.heap.size∧p.2 < w.heap.size:=by
 intro p hp
 obtain⟨i,hi,rfl⟩:=List.getElem_of_mem hp
 exact⟨(h.at_ i hi).lt,(h.at_ i hi).chan.lt⟩
theorem new_farm (st:FSt) (hc:CfOk st) (hs:StOk st) (hjs:st.js=[]) (hff:FsFine st.fs) (ok:Nat→Prop) (lv:Value) (w:World) (hl:Kd.SK kFunc w ok st.fs lv) (base:Nat) (hbs:base≤w.heap.size) (hbo:∀ b,ok b→base≤b) :
  Calls Tryz.prog 21 #[confV st,lv] w (NewPost w base st):=by
 have HCk:=Hm (λ(wx:World) (hb:Bel w wx)=>fcheck_ok st hc hs ok lv wx (sk_bel hl hb))
 have HL:=Hm (hl.stay (ok':=λb=>base≤b∧b < w.heap.size) (λb ho hb=>⟨⟨hbo b ho,hb⟩,rfl⟩))
 have HC:=Hm hc
 have HS:=Hm hs
 have HF:=Hm hff
 have HJs:=Hm hjs
 obtain⟨A,c,rfl,-⟩:=sk_form hl
 have hn16:=hs.fs16
 clear hl hc hs hff hjs hbo
 unfold confV at HCk⊢
 go_enter Tryz.func21,Tryz.ntmps21
 go_wp2_with fail
 refine(HCk.o _ (bA (bR w) _)).mono ?_
 rintro e w1 ⟨rfl,hb1⟩
 have hq1:=bHeap hb1 (hnew (w:=w) (o:=.cells #[.int .i64 st.regs,.int .i64 st.workers,.int .u64 st.t.lease,.int .u64 st.t.wait,.int .u64 st.t.most,.int .i64 st.room,.int .i64 st.box] 33) rfl)
 obtain⟨q,hq⟩:∃ q,q=w.heap.size:=⟨_,rfl⟩
 rw[←hq] at hq1⊢
 have z0:w1.cell? ⟨q,0,none⟩=some (.int .i64 st.regs):=hcell hq1 0
 have z1:w1.cell? ⟨q,1,none⟩=some (.int .i64 st.workers):=hcell hq1 1
 have z2:w1.cell? ⟨q,2,none⟩=some (.int .u64 st.t.lease):=hcell hq1 2
 have z3:w1.cell? ⟨q,3,none⟩=some (.int .u64 st.t.wait):=hcell hq1 3
 have z4:w1.cell? ⟨q,4,none⟩=some (.int .u64 st.t.most):=hcell hq1 4
 have z5:w1.cell? ⟨q,5,none⟩=some (.int .i64 st.room):=hcell hq1 5
 have z6:w1.cell? ⟨q,6,none⟩=some (.int .i64 st.box):=hcell hq1 6
 have hql:=hlt hq1
 have HB1:=Hm (bT (bA (bR w) (.cells #[.int .i64 st.regs,.int .i64 st.workers,.int .u64 st.t.lease,.int .u64 st.t.wait,.int .u64 st.t.most,.int .i64 st.room,.int .i64 st.box] 33)) hb1)
 have HQ:=Hm (And.intro hq hq1)
 clear hb1 hq hq1
 go_wp2_with fail
 obtain⟨w2,hw2⟩:∃ w2,w2=w1.alloc (.cells (newCells st (.slice none 0 0) (.pointer none) (.slice none 0 0)) 114):=⟨_,rfl⟩
 obtain⟨x,hx⟩:∃ x,x=w1.heap.size:=⟨_,rfl⟩
 have K0:Hd (w2.heap[x]?=some (.cells (newCells st (.slice none 0 0) (.pointer none) (.slice none 0 0)) 114 (0,0))):=⟨by rw[hw2];exact hnew hx⟩
 have HB2:Hd (Bel w w2):=⟨by rw[hw2];exact bA HB1.o _⟩
 have HX:Hd (q < x∧w.heap.size≤q∧w2.heap.size=x+1∧w2.heap[q]?=some (.cells #[.int .i64 st.regs,.int .i64 st.workers,.int .u64 st.t.lease,.int .u64 st.t.wait,.int .u64 st.t.most,.int .i64 st.room,.int .i64 st.box] 33 (0,0))) :=
  ⟨by rw[hx];exact hql,by rw[HQ.o.1];exact Nat.le_refl _,by rw[hw2,hx];simp,by rw[hw2];exact hold HQ.o.2 hql⟩
 unfold newCells at hw2
 rw[←hw2,←hx]
 clear hw2 hx z0 z1 z2 z3 z4 z5 z6 hql HB1 HQ HCk
 go_loopw [25] (λi wr=>∃ (j:Nat) (ok:Nat→Prop) (lv:Value),j≤st.fs.length∧i=.int .i64 j∧Only w2 wr (λb=>b=x)∧wr.heap[x]?=some (.cells (newCells st lv (.pointer none) (.slice none 0 0)) 114 (0,0))∧KRow kFunc wr (x+1) 99 ok (st.fs.take j) lv∧∀ b,ok b→b≠x∧base≤b) (λi _=>st.fs.length-(intOf i).toNat)
 case atStart=>exact⟨0,λ_=>False,_,Nat.zero_le _,rfl,Only.refl _ _,K0.o,KRow.none _ _ _ _ (λ_ h=>h.elim),λ_ h=>h.elim⟩
 case round =>
  obtain⟨j,ok',lj,hj,rfl,ho,hh,hk,hok⟩:=hrel
  obtain⟨Aj,cj,rfl,-⟩:=hk.form
  have HO:=Hm ho
  have HH:=Hm hh
  have HK:=Hm hk
  have HOk:=Hm hok
  have hjl:(st.fs.take j).length=j:=by rw[List.length_take];omega
  rw[hjl] at HH HK
  clear ho hh hk hok
  by_cases hltj:j < st.fs.length
  ·have hxs:=HX.o.2.2.1
   have hsr:=HO.o.size
   have HBw:Hd (Bel w wr):=⟨(Only.belLeft HB2.o HO.o).toBel (λb hb e=>by have:=HX.o.1;have:=HX.o.2.1;omega)⟩
   obtain⟨b,off,c',v1,e,-,hsk,hwp,hwv,z0,z1,z2⟩:=sk_func (sk_bel HL.o HBw.o) j hltj
   simp only[Value.slice.injEq] at e
   obtain⟨rfl,-,rfl⟩:=e
   have hff:=HF.o.ins _ (List.getElem_mem hltj)
   have hfb:=HF.o.blocks _ (List.getElem_mem hltj)
   have hfb1:=(HC.o.fs _ (List.getElem_mem hltj)).n1
   have htk:=List.take_succ_eq_append_getElem hltj
   generalize st.fs[j]=y at *
   obtain⟨A1,c1,vs1,rfl,hc1,hm1,hr1,hall1⟩:=hsk
   have HI:=Hm (And.intro hr1 hall1)
   have HY:=Hm (And.intro hff (And.intro htk (And.intro hwp hwv)))
   have hpl:x < wr.heap.size:=hlt HH.o
   obtain⟨fp,fv,fb⟩:=y
   dsimp only at *
   clear hff htk hwp hwv hr1 hall1
   go_wp2_with (first
    |(at_builtin;refine app0 iBlock Tryz.underlying57 rfl (.tmp 29) (.tmp 31) rfl rfl (own_empty (wr.alloc _) (wr.heap.size+1) 97 5 (wr.heap.size+1) (by simp) (by simp)) (show wr.heap.size+1≤((wr.alloc _).alloc _).heap.size by simp only[World.size_alloc];omega) (A:=A1) (m:=fb.length) (c:=c1) rfl (Row.below HI.o.1.row (bA (bA (bR wr) _) _)) HI.o.2.len (by omega) ?_)
    |fail)
   intro v3 w3 hb3 ho3
   have hb3w:Bel wr w3:=bT (bA (bA (bR wr) _) _) hb3
   obtain⟨g,cg,rfl,hgb⟩:=own_form ho3 (by omega)
   have hgl:g < w3.heap.size:=(ho3.lt g rfl).2
   have hqf:=bHeap hb3 (hold (o:=.cells #[] 97) (hnew (w:=wr) (o:=.cells #[.int .i64 fp,.int .i64 fv,.slice A1 fb.length c1] 99) rfl) (by simp))
   have y2:w3.cell? ⟨wr.heap.size,2,none⟩=some (.slice A1 fb.length c1):=hcell hqf 2
   have f2:=hfree hqf 2
   have hqfl:=hlt hqf
   have hh3:=bHeap hb3w HH.o
   have HO3:Hd (KRow kBlock w3 (wr.heap.size+1) 97 (λb=>base≤b∧b < w.heap.size) fb (.slice (some ⟨g,0,none⟩) fb.length cg)):=⟨⟨_,ho3,HI.o.2.stay (Stays.below hb3w)⟩,λb hb e=>by have:=HBw.o.size;simp[Value.ownBlock] at e;omega,λb hb=>by have:=HBw.o.size;have:=hb3w.size;omega⟩
   have HB3:=Hm hb3w
   have HQf:=Hm hqf
   have HG:=Hm hgb
   clear hb3 ho3 hqf hh3 hb3w z0 z1 z2 hgb
   go_wp2_with fail
   obtain⟨w4,hw4⟩:∃ w4,w4=w3.setCell ⟨wr.heap.size,2,none⟩ (.slice (some ⟨g,0,none⟩) fb.length cg):=⟨_,rfl⟩
   have hg4:w3.grownBy w4 (some wr.heap.size):=by rw[hw4];exact grownBy_cell _ _ _ _
   have HQ4:Hd (w4.heap[wr.heap.size]?=some (.cells #[.int .i64 fp,.int .i64 fv,.slice (some ⟨g,0,none⟩) fb.length cg] 99 (0,0))):=⟨by
    rw[hw4,Go.Joins.block_setCell HQf.o _];rfl⟩
   have HO4:=Hm (HO3.o.stay hg4 (.inl (by simp[Value.ownBlock];have:=HG.o;omega)) (λb hb e=>by have:=HBw.o.size;simp at e;omega))
   have HB4:Hd (Bel wr w4):=⟨bG HB3.o hg4 (λk hk=>by cases hk;exact Nat.le_refl _)⟩
   have hg4l:g < w4.heap.size:=by have:=hg4.size;omega
   rw[←hw4]
   clear hw4 hg4 HO3 HB3 y2 f2 hqfl hgl HQf
   obtain⟨qf,hqfd⟩:∃ qf,qf=wr.heap.size:=⟨_,rfl⟩
   rw[←hqfd] at HQ4 HG HO4⊢
   obtain⟨wo,hwo⟩:∃ wo,wo=wr:=⟨_,rfl⟩
   rw[←hwo] at HO HH HK HBw HB4 hqfd HI
   clear hwo
   have HQd:=Hm hqfd
   clear hqfd hxs hsr hpl
   go_loopw [37] (λi wr=>∃ (k:Nat) (ok2:Nat→Prop),k≤fb.length∧i=.int .i64 k∧Only w4 wr (λb=>b=g)∧KRow kBlock wr (qf+1) 97 ok2 fb (.slice (some ⟨g,0,none⟩) fb.length cg)∧∀ b,ok2 b→(base≤b∧b < w.heap.size)∨w4.heap.size≤b) (λi _=>fb.length-(intOf i).toNat)
   case atStart=>exact⟨0,_,Nat.zero_le _,rfl,Only.refl _ _,HO4.o,λb hb=>.inl hb⟩
   case round =>
    obtain⟨k,ok2,hk,rfl,ho,hkr,hok2⟩:=hrel
    have HOi:=Hm ho
    have HKi:=Hm hkr
    have HOk2:=Hm hok2
    clear ho hkr hok2
    have hqk:=HOi.o.heap HQ4.o (by have:=HG.o;omega)
    have HQi:=Hm hqk
    by_cases hltk:k < fb.length
    ·obtain⟨bb,bo,bc,v5,e,-,hfin,hs5,x0,x1,x2,x3,x4⟩:=sk_block HKi.o.sk k hltk
     simp only[Value.slice.injEq,Option.some.injEq,Addr.mk.injEq,and_true,true_and] at e
     obtain⟨⟨rfl,rfl⟩,rfl⟩:=e
     simp only[Nat.zero_add] at x0 x1 x2 x3 x4
     have hfi:=HY.o.1 _ (List.getElem_mem hltk)
     have HCp:=Hm (λ(wx:World) (hb:Bel wr wx)=>copied_blk fb[k] hfi.1 hfi.2 _ v5 wx (sk_bel hs5 hb))
     have HFin:=Hm (And.intro hfin hltk)
     have q2:wr.cell? ⟨qf,2,none⟩=some (.slice (some ⟨g,0,none⟩) fb.length cg):=hcell hqk 2
     have hqkl:=hlt hqk
     obtain⟨A5,c5,rfl,-⟩:=sk_form hs5
     have fg:=λm=>World.ownsRow.frozenAt HKi.o.own.choose_spec m
     have hgr:g < wr.heap.size:=World.block_lt_of_cell? wr _ x0
     clear hs5 hfin hfi hqk
     obtain⟨y,hy⟩:∃ y,y=fb[k]:=⟨_,rfl⟩
     rw[←hy] at HCp HFin x0 x1 x2 x3 x4
     have HYd:=Hm hy
     clear hy
     go_wp2_with fail
     refine rgn [.rd 0,.rd 1,.rd 2,.rd 3,.hv 4 [0,1,2],.rd 5,.hv 6 []] (n:=94) rfl ?_
     iterate 4 (refine line_rd rfl (λK hK=>?_);go_simp;refine hK _ ?_;clear hK K)
     refine line_hv rfl ?_
     go_wp2_with fail
     refine(HCp.o _ (bD (bA (bR wr) _))).mono ?_
     rintro e w6 ⟨v6,rfl,hb6',hs6⟩
     have hb6:Bel wr w6:=bT (bA (bR wr) _) (bU hb6')
     obtain⟨A6,c6,rfl,-⟩:=sk_form hs6
     replace q2:=bCell hb6 q2
     replace x0:=bCell hb6 x0
     replace x1:=bCell hb6 x1
     replace x2:=bCell hb6 x2
     replace x3:=bCell hb6 x3
     replace x4:=bCell hb6 x4
     have HK6:=Hm (HKi.o.bel hb6)
     have f0:=World.ownsRow.frozenAt HK6.o.own.choose_spec (k*5)
     have f1:=World.ownsRow.frozenAt HK6.o.own.choose_spec (k*5+1)
     have f2:=World.ownsRow.frozenAt HK6.o.own.choose_spec (k*5+2)
     have f3:=World.ownsRow.frozenAt HK6.o.own.choose_spec (k*5+3)
     have f4:=World.ownsRow.frozenAt HK6.o.own.choose_spec (k*5+4)
     have hqk6:=World.block_lt_of_cell? w6 _ q2
     have hg6:=World.block_lt_of_cell? w6 _ x0
     have HB6:=Hm hb6
     have HS6:=Hm (show Kd.SK kIns w6 (λb=>wr.heap.size≤b) y.ins (.slice A6 y.ins.length c6) from hs6.stay (Stays.weaken λb hb=>by simp at hb;omega))
     clear hb6 hb6' hs6 fg
     dsimp only at q2 hg6 hqk6
     go_wp2_with fail
     refine⟨?_,?_⟩
     ·simp only[Again,slotOf]
      go_simp
     iterate 1 (refine line_rd rfl (λK hK=>?_);go_simp;refine hK _ ?_;clear hK K)
     refine line_hv rfl ?_
     go_wp2_with fail
     refine⟨?_,?_⟩
     ·exact trivial
     unfold Line
     have hsz6:=HB6.o.size
     have hkm:=HK6.o.more (ok':=λb=>ok2 b∨(wr.heap.size≤b∧b < w6.heap.size)) (λb hb=>.inl hb) (by
      rintro b (hb|hb) e
      ·exact HK6.o.apart b hb e
      ·simp[Value.ownBlock] at e;omega) (by
      rintro b (hb|hb)
      ·exact HK6.o.lt b hb
      ·exact hb.2)
     have hs6':Kd.SK kIns w6 (λb=>ok2 b∨(wr.heap.size≤b∧b < w6.heap.size)) y.ins (.slice A6 y.ins.length c6):=HS6.o.stay (λb hb hl=>⟨.inr ⟨hb,hl⟩,rfl⟩)
     have hk7:=krow_set5 (show kBlock.size=5 from rfl) hkm k HFin.o.2 (a0:=.slice A6 y.ins.length c6) (a1:=.int .u8 y.fin.kind) (a2:=.int .i64 y.fin.a) (a3:=.int .i64 y.fin.to_) (a4:=.int .i64 y.fin.else_) (by
      rw[←HYd.o];exact kBlock_mk HFin.o.1 hs6')
     have hg7:w6.grownBy (((((w6.setCell ⟨g,k*5,none⟩ (.slice A6 y.ins.length c6)).setCell ⟨g,k*5+1,none⟩ (.int .u8 y.fin.kind)).setCell ⟨g,k*5+2,none⟩ (.int .i64 y.fin.a)).setCell ⟨g,k*5+3,none⟩ (.int .i64 y.fin.to_)).setCell ⟨g,k*5+4,none⟩ (.int .i64 y.fin.else_)) (some g) :=
      grownBy_trans (grownBy_trans (grownBy_trans (grownBy_trans (grownBy_cell _ _ _ _) (grownBy_cell _ _ _ _)) (grownBy_cell _ _ _ _)) (grownBy_cell _ _ _ _)) (grownBy_cell _ _ _ _)
     have HO7:=Hm ((HOi.o.trans (Only.bel (F:=λ_=>False) HB6.o) (λ_ _ h=>h.elim)).trans (Only.grown (F:=λb=>b=g) hg7 (λm e=>by cases e;rfl)) (λ_ _ h=>h))
     have HK7:=Hm hk7
     have hs4i:=HOi.o.size
     clear hkm hs6' hk7 hg7 x0 x1 x2 x3 x4 f0 f1 f2 f3 f4 q2
     generalize (((((w6.setCell ⟨g,k*5,none⟩ (.slice A6 y.ins.length c6)).setCell ⟨g,k*5+1,none⟩ (.int .u8 y.fin.kind)).setCell ⟨g,k*5+2,none⟩ (.int .i64 y.fin.a)).setCell ⟨g,k*5+3,none⟩ (.int .i64 y.fin.to_)).setCell ⟨g,k*5+4,none⟩ (.int .i64 y.fin.else_))=w7 at *
     go_wp2_with fail
     go_roundw
     case rel =>
      refine⟨k+1,_,by omega,by go_num,HO7.o,HK7.o,?_⟩
      rintro b (hb|hb)
      ·exact HOk2.o b hb
      ·exact .inr (by omega)
     case measure=>simp[intOf];omega
    ·have HKf:=Hm HKi.o.sk
     have q0:wr.cell? ⟨qf,0,none⟩=some (.int .i64 fp):=hcell hqk 0
     have q1:wr.cell? ⟨qf,1,none⟩=some (.int .i64 fv):=hcell hqk 1
     have q2:wr.cell? ⟨qf,2,none⟩=some (.slice (some ⟨g,0,none⟩) fb.length cg):=hcell hqk 2
     have hqkl:=hlt hqk
     have hOwr:Only wo wr (λ_=>False):=(Only.bel (F:=λ_=>False) HB4.o).trans HOi.o (by rintro b hb rfl;have:=HG.o;have:=HQd.o;omega)
     have hhx:=hOwr.heap HH.o (λh=>h)
     have HKl:=Hm (HK.o.only hOwr (λ_ _ h=>h) (λ_ _ h=>h))
     have HOwr:=Hm hOwr
     have HHx:=Hm hhx
     have d7:wr.cell? ⟨x,7,none⟩=some (.slice Aj j cj):=hcell hhx 7
     have g7:=hfree hhx 7
     have hxl:=hlt hhx
     clear hqk hOwr hhx
     go_wp2_with fail
     refine rgn [.rd 0,.rd 1,.rd 2,.rd 3,.rd 4,.rd 5,.hv 6 [0,1,2,3,4],.hv 7 [0],.rd 8,.rd 9,.hv 10 []] (n:=94) rfl ?_
     iterate 6 (refine line_rd rfl (λK hK=>?_);go_simp;refine hK _ ?_;clear hK K)
     refine line_hv rfl ?_
     go_wp2_with fail
     refine⟨?_,?_⟩
     ·simp only[Again,slotOf]
      go_simp
     refine line_hv rfl ?_
     have hw4s:=HB4.o.size
     have h4r:=HOi.o.size
     have hxa:=HX.o
     have hgq:=HG.o
     have hqw:=HQd.o
     have hbw:=HBw.o.size
     have hok4:∀ b,(ok' b∨ok2 b∨b=g)→b≠x∧base≤b:=by
      rintro b (hb|hb|rfl)
      ·exact HOk.o b hb
      ·have:=HO.o.size;rcases HOk2.o b hb with h|h<;>omega
      ·have:=HO.o.size;omega
     have hk4:KRow kFunc wr (x+1) 99 (λb=>ok' b∨ok2 b∨b=g) (st.fs.take j) (.slice Aj j cj):=HKl.o.more (λb hb=>.inl hb) (by
      rintro b (hb|hb|rfl) e
      ·exact HKl.o.apart b hb e
      ·have h1:=HK.o.lt_own b e.symm;rcases HOk2.o b hb with h|h<;>omega
      ·have h1:=(HK.o.lt_own b e.symm).2;omega) (by
      rintro b (hb|hb|rfl)
      ·exact HKl.o.lt b hb
      ·exact HKi.o.lt b hb
      ·omega)
     have hy4:kFunc.K wr (λb=>ok' b∨ok2 b∨b=g) ⟨fp,fv,fb⟩ [.int .i64 fp,.int .i64 fv,.slice (some ⟨g,0,none⟩) fb.length cg]:=kFunc_mk HY.o.2.2.1 HY.o.2.2.2 (HKf.o.stay (Stays.weaken (by
      rintro b (hb|hb)
      ·exact .inr (.inl hb)
      ·simp[Value.ownBlock] at hb;exact .inr (.inr hb))))
     have HK4:=Hm (And.intro hk4 (And.intro hy4 hok4))
     clear hk4 hy4 hok4 hw4s h4r hxa hgq hqw
     refine appK iFunc Tryz.underlying34 rfl (.tmp 53) (.tmp 55) rfl (v:=.slice Aj j cj) rfl (HK4.o.1.bel (bA (bD (bR wr)) (.cells #[.int .i64 fp,.int .i64 fv,.slice (some ⟨g,0,none⟩) fb.length cg] 99))) (show x+1≤(wr.drew.alloc _).heap.size by have h9:wr.drew.heap.size=wr.heap.size:=rfl;simp only[World.size_alloc];omega) (q:=wr.drew.heap.size) rfl (row_new wr.drew [.int .i64 fp,.int .i64 fv,.slice (some ⟨g,0,none⟩) fb.length cg] 99 (0,0)) (kFunc.stay (Stays.below (bA (bD (bR wr)) _)) HK4.o.2.1) (by rw[hjl];omega) ?_
     intro v8 w8 hk8 hg8 hw8
     have hjl8:(st.fs.take j++[(⟨fp,fv,fb⟩:Func)]).length=j+1:=by rw[List.length_append,hjl];rfl
     obtain⟨A8,c8,rfl,-⟩:=hk8.form
     rw[hjl8] at hk8⊢
     have hhx8:w8.heap[x]?=some (.cells (newCells st (.slice Aj j cj) (.pointer none) (.slice none 0 0)) 114 (0,0)):=by
      rw[hg8.block x (by simp;omega) (λe=>by have:=(HKl.o.lt_own _ e.symm).1;omega)]
      exact hold HHx.o hxl
     have d7':w8.cell? ⟨x,7,none⟩=some (.slice Aj j cj):=hcell hhx8 7
     have g7':=hfree hhx8 7
     have hxl8:=hlt hhx8
     have HHx8:=Hm hhx8
     have HO8:Hd (Only wr w8 (λb=>some b=(Value.slice Aj j cj).ownBlock)):=⟨Only.belLeft (bA (bD (bR wr)) _) (Only.grown (F:=λb=>some b=(Value.slice Aj j cj).ownBlock) hg8 (λm e=>e.symm))⟩
     have HK8:=Hm hk8
     clear hk8 hg8 hw8 hhx8 hjl8 d7 g7 q0 q1 q2
     go_wp2_with fail
     refine⟨?_,?_⟩
     ·simp only[Again,slotOf]
      go_simp
     iterate 2 (refine line_rd rfl (λK hK=>?_);go_simp;refine hK _ ?_;clear hK K)
     refine line_hv rfl ?_
     go_wp2_with fail
     refine⟨?_,?_⟩
     ·exact trivial
     unfold Line
     have hh9:(w8.setCell ⟨x,7,none⟩ (.slice A8 (j+1) c8)).heap[x]?=some (.cells (newCells st (.slice A8 (j+1) c8) (.pointer none) (.slice none 0 0)) 114 (0,0)):=by
      rw[Go.Joins.block_setCell HHx8.o _];rfl
     have ho9:Only w2 (w8.setCell ⟨x,7,none⟩ (.slice A8 (j+1) c8)) (λb=>b=x):=by
      refine((HO.o.trans HOwr.o (λ_ _ h=>h.elim)).trans HO8.o ?_).trans (Only.grown (F:=λb=>b=x) (grownBy_cell _ _ _ _) (λm e=>by cases e;rfl)) (λ_ _ h=>h)
      intro b hb e
      have:=(HKl.o.lt_own _ e.symm).1
      have:=HX.o.2.2.1
      omega
     have hk9:KRow kFunc (w8.setCell ⟨x,7,none⟩ (.slice A8 (j+1) c8)) (x+1) 99 (λb=>ok' b∨ok2 b∨b=g) (st.fs.take (j+1)) (.slice A8 (j+1) c8):=by
      rw[HY.o.2.1]
      exact HK8.o.only (Only.grown (F:=λb=>b=x) (grownBy_cell _ _ _ _) (λm e=>by cases e;rfl)) (λb hb e=>by have:=(HK8.o.lt_own _ hb).1;omega) (λb hb e=>(HK4.o.2.2 b hb).1 e)
     have H9:=Hm (And.intro ho9 (And.intro hh9 hk9))
     clear ho9 hh9 hk9 d7' g7'
     generalize w8.setCell ⟨x,7,none⟩ (.slice A8 (j+1) c8)=w9 at *
     go_wp2_with fail
     go_roundw
     case rel=>exact⟨j+1,_,_,by omega,by go_num,H9.o.1,H9.o.2.1,H9.o.2.2,HK4.o.2.2⟩
     case measure=>simp[intOf];omega
  ·obtain rfl:j=st.fs.length:=by omega
   rw[List.take_length] at HK
   obtain⟨w3,hw3⟩:∃ w3,w3=wr:=⟨_,rfl⟩
   rw[←hw3] at HO HH HK⊢
   clear hw3 wr
   have hq3:=HO.o.heap HX.o.2.2.2 (by have:=HX.o.1;omega)
   have HQ3:=Hm hq3
   have z1:w3.cell? ⟨q,1,none⟩=some (.int .i64 st.workers):=hcell hq3 1
   have hql:=hlt hq3
   have hw4:st.workers≤3:=HC.o.w3
   have hwr1:IntKind.i64.wrap (1+(st.workers:Int))=1+(st.workers:Int):=by simp[IntKind.wrap,IntKind.bits,IntKind.signed];omega
   clear hq3
   go_wp2_with fail
   clear z1 hql
   go_loopw [63] (λi wr=>∃ (k:Nat) (bs:List (Nat × Nat)) (bv:Value),k≤st.workers+1∧i=.int .i64 k∧bs.length=k∧Only w3 wr (λb=>b=x)∧wr.heap[x]?=some (.cells (newCells st (.slice Aj st.fs.length cj) (.pointer none) bv) 114 (0,0))∧Boxes wr w3.heap.size st.box bv bs) (λi _=>st.workers+1-(intOf i).toNat)
   case atStart=>exact⟨0,[],_,Nat.zero_le _,rfl,rfl,Only.refl _ _,HH.o,⟨λi hi=>absurd hi (by simp),(λp hp=>by cases hp),List.Pairwise.nil,(λp hp=>by cases hp),own_none _ _ _ _ 0 rfl⟩⟩
   case round =>
    obtain⟨k,bs,bv,hk,rfl,hbl,ho,hh,hbx⟩:=hrel
    have HOi:=Hm ho
    have HHi:=Hm hh
    have HBx:=Hm hbx
    have hbvf:∃ Ab cb,bv=.slice Ab k cb:=by
     rcases hbx.own.2 with ⟨rfl,h0⟩|⟨g,c,cur,h1,-⟩
     ·exact⟨none,0,by rw[←hbl,h0]⟩
     ·exact⟨_,_,by rw[←hbl];exact h1⟩
    obtain⟨Ab,cb,rfl⟩:=hbvf
    have hqk:=HOi.o.heap HQ3.o (by have:=HX.o.1;omega)
    have HQk:=Hm hqk
    clear ho hh hbx
    by_cases hltk:k < st.workers+1
    ·have hltk':(k:Int) < 1+(st.workers:Int):=by omega
     have z6:wr.cell? ⟨q,6,none⟩=some (.int .i64 st.box):=hcell hqk 6
     have hql:=hlt hqk
     have HNw:=Hm (Bx.new_ok st.box wr HC.o.b1 HC.o.b2)
     clear hqk
     go_wp2_with fail
     refine HNw.o.mono ?_
     rintro e w4 ⟨pn,cn,rfl,hbn,hb4,hpn,hcn⟩
     have hh4:=bHeap hb4 HHi.o
     have d12:w4.cell? ⟨x,12,none⟩=some (.slice Ab k cb):=hcell hh4 12
     have g12:=hfree hh4 12
     have hxl:=hlt hh4
     have HB4:=Hm (And.intro hb4 (And.intro hbn (And.intro hpn (And.intro hcn hh4))))
     have HBx4:=Hm (HBx.o.only (Only.bel (F:=λ_=>False) hb4) (λ_ _ _ h=>h))
     have ho4:=HBx4.o.own
     rw[hbl] at ho4
     have HOw4:=Hm ho4
     have hw3s:=HOi.o.size
     clear hb4 hbn hpn hcn hh4 z6 ho4
     go_wp2_with (first
      |(at_builtin;refine appW iPtr Tryz.underlying112 rfl (.tmp 75) (.tmp 77) rfl (v:=.slice Ab k cb) rfl (World.ownsRow.alloc HOw4.o (.cells #[.pointer (some ⟨pn,0,none⟩)] 104)) (show w3.heap.size≤(w4.alloc _).heap.size by have:=HB4.o.1.size;simp only[World.size_alloc];omega) (q:=w4.heap.size) rfl (row_new w4 [.pointer (some ⟨pn,0,none⟩)] 104 (0,0)) (by simp) (by intro u hu;simp at hu;subst hu;rfl) (by omega) ?_)
      |fail)
     intro v5 w5 ho5 hg5 hw5
     have hg45:Only w4 w5 (λb=>some b=(Value.slice Ab k cb).ownBlock):=Only.belLeft (bA (bR _) (.cells #[.pointer (some ⟨pn,0,none⟩)] 104)) (Only.grown (F:=λb=>some b=(Value.slice Ab k cb).ownBlock) hg5 (λm e=>e.symm))
     have hls:=HBx.o.less
     have hpnl:=HB4.o.2.1.lt
     have hcnl:=HB4.o.2.1.chan.lt
     have hpn:=HB4.o.2.2.1
     have hcn:=HB4.o.2.2.2.1
     have hs34:=HOi.o.size
     have hs4:=HB4.o.1.size
     have hbvl:=λg hg=>HBx.o.own.lt g hg
     have hbx5:Boxes w5 w3.heap.size st.box v5 (bs++[(pn,cn)]):=by
      refine⟨λi hi=>?_,?_,?_,?_,?_⟩
      ·rw[List.length_append] at hi
       by_cases hib:i < bs.length
       ·rw[List.getElem_append_left hib]
        have h9:=HBx4.o.row _ (List.getElem_mem hib)
        exact(HBx4.o.at_ i hib).onlyF hg45 (λe=>h9.1 e.symm) (λe=>h9.2 e.symm)
       ·obtain rfl:i=bs.length:=by simp at hi;omega
        have e9:(bs++[(pn,cn)])[bs.length]'(by simp)=(pn,cn):=by simp
        rw[e9]
        exact HB4.o.2.1.onlyF hg45 (λe=>by have:=(hbvl _ e.symm).2;omega) (λe=>by have:=(hbvl _ e.symm).2;omega)
      ·intro p hp
       rcases List.mem_append.1 hp with hp|hp
       ·exact HBx.o.lo p hp
       ·rw[List.mem_singleton] at hp;subst hp;dsimp only;omega
      ·refine List.pairwise_append.2 ⟨HBx.o.pw,List.pairwise_singleton _ _,λa ha b hb=>?_⟩
       rw[List.mem_singleton] at hb;subst hb
       have:=hls a ha
       dsimp only;omega
      ·intro p hp
       rcases hw5 with e5|e5
       ·rw[e5]
        rcases List.mem_append.1 hp with hp|hp
        ·exact HBx.o.row p hp
        ·rw[List.mem_singleton] at hp;subst hp
         exact⟨λe=>by have:=(hbvl _ e).2;omega,λe=>by have:=(hbvl _ e).2;omega⟩
       ·rw[e5]
        simp only[World.size_alloc,ne_eq,Option.some.injEq]
        rcases List.mem_append.1 hp with hp|hp
        ·have:=hls p hp;omega
        ·rw[List.mem_singleton] at hp;subst hp;dsimp only;omega
      ·rw[List.length_append,hbl,List.map_append]
       exact ho5
     have hv5:∃ A5 c5,v5=.slice A5 (k+1) c5:=by
      rcases ho5.2 with ⟨_,h0⟩|⟨g,c,cur,h1,-⟩
      ·omega
      ·exact⟨_,_,h1⟩
     obtain⟨A5,c5,rfl⟩:=hv5
     have hh5:=hg45.heap HB4.o.2.2.2.2 (λe=>by have:=(hbvl _ e.symm).1;have:=HX.o.2.2.1;have:=HO.o.size;omega)
     have d12':w5.cell? ⟨x,12,none⟩=some (.slice Ab k cb):=hcell hh5 12
     have g12':=hfree hh5 12
     have hxl5:=hlt hh5
     have hh6:(w5.setCell ⟨x,12,none⟩ (.slice A5 (k+1) c5)).heap[x]?=some (.cells (newCells st (.slice Aj st.fs.length cj) (.pointer none) (.slice A5 (k+1) c5)) 114 (0,0)):=by
      rw[Go.Joins.block_setCell hh5 _];rfl
     have ho6:Only w3 (w5.setCell ⟨x,12,none⟩ (.slice A5 (k+1) c5)) (λb=>b=x):=by
      refine((HOi.o.trans (Only.bel (F:=λ_=>False) HB4.o.1) (λ_ _ h=>h.elim)).trans hg45 ?_).trans (Only.grown (F:=λb=>b=x) (grownBy_cell _ _ _ _) (λm e=>by cases e;rfl)) (λ_ _ h=>h)
      intro b hb e
      have:=(hbvl _ e.symm).1
      omega
     have hbx6:=hbx5.only (w':=w5.setCell ⟨x,12,none⟩ (.slice A5 (k+1) c5)) (F:=λb=>b=x) (Only.grown (grownBy_cell _ _ _ _) (λm e=>by cases e;rfl)) (λb hb _ e=>by have:=HX.o.2.2.1;have:=HO.o.size;omega)
     have H6:=Hm (And.intro hh6 (And.intro ho6 hbx6))
     clear ho5 hg5 hw5 hg45 hbx5 hh5 hh6 ho6 hbx6 hls hpnl hcnl hpn hcn hbvl d12 g12
     generalize hw6:w5.setCell ⟨x,12,none⟩ (.slice A5 (k+1) c5)=w6 at H6
     go_wp2_with fail
     go_roundw
     case rel=>exact⟨k+1,bs++[(pn,cn)],_,by omega,by go_num,by rw[List.length_append,hbl];rfl,H6.o.2.1,H6.o.1,H6.o.2.2⟩
     case measure=>simp[intOf];omega
    ·obtain rfl:k=st.workers+1:=by omega
     have z5:wr.cell? ⟨q,5,none⟩=some (.int .i64 st.room):=hcell hqk 5
     have hql:=hlt hqk
     have HFn:=Hm (file_new st.room HC.o.room wr)
     clear hqk
     go_wp2_with fail
     refine HFn.o.mono ?_
     rintro e w7 ⟨pf,rfl,hpf,hb7,hf7⟩
     have hh7:=bHeap hb7 HHi.o
     have d9:w7.cell? ⟨x,9,none⟩=some (.pointer none):=hcell hh7 9
     have g9:=hfree hh7 9
     have hxl:=hlt hh7
     have hh8:(w7.setCell ⟨x,9,none⟩ (.pointer (some ⟨pf,0,none⟩))).heap[x]?=some (.cells (newCells st (.slice Aj st.fs.length cj) (.pointer (some ⟨pf,0,none⟩)) (.slice Ab (st.workers+1) cb)) 114 (0,0)):=by
      rw[Go.Joins.block_setCell hh7 _];rfl
     have hg8:=grownBy_cell w7 x 9 (.pointer (some ⟨pf,0,none⟩))
     have ho8:Only wr (w7.setCell ⟨x,9,none⟩ (.pointer (some ⟨pf,0,none⟩))) (λb=>b=x):=Only.belLeft hb7 (Only.grown (F:=λb=>b=x) hg8 (λm e=>by cases e;rfl))
     have hxq:=HX.o
     have hs3:=HO.o.size
     have hsr:=HOi.o.size
     have hf8:FileAt (w7.setCell ⟨x,9,none⟩ (.pointer (some ⟨pf,0,none⟩))) pf st.room [] none 0:=hf7.only' (Only.grown (F:=λb=>b=x) hg8 (λm e=>by cases e;rfl)) (by have:=hlt HHi.o;omega) (λh0=>absurd h0 (by simp))
     have hbx8:=HBx.o.only ho8 (λb hb _ e=>by omega)
     have hk8:=((HK.o.only HOi.o (λb hb e=>by have:=(HK.o.lt_own b hb).1;omega) (λb hb e=>(HOk.o b hb).1 e))).only ho8 (λb hb e=>by have:=(HK.o.lt_own b hb).1;omega) (λb hb e=>(HOk.o b hb).1 e)
     have hb8:Bel w (w7.setCell ⟨x,9,none⟩ (.pointer (some ⟨pf,0,none⟩))):=(Only.belLeft HB2.o ((HO.o.trans HOi.o (λ_ _ h=>h)).trans ho8 (λ_ _ h=>h))).toBel (λb hb e=>by omega)
     have hpfl:pf < w7.heap.size:=hlt hf7.head
     have hsz8:(w7.setCell ⟨x,9,none⟩ (.pointer (some ⟨pf,0,none⟩))).heap.size=w7.heap.size:=by simp
     generalize hw8:w7.setCell ⟨x,9,none⟩ (.pointer (some ⟨pf,0,none⟩))=w8 at *
     have hkl:=λb (hb:(Value.slice Aj st.fs.length cj).ownBlock=some b)=>HK.o.lt_own b hb
     have hcs:(bs.map (·.2)).Nodup:=by
      refine List.Pairwise.map (R:=λ(a b:Nat × Nat)=>a.1 < b.1∧a.1 < b.2∧a.2 < b.1∧a.2 < b.2) (·.2) (λa b h=>?_) HBx.o.pw
      omega
     obtain⟨ow,how⟩:∃ ow:Nat→Nat,ow=λb=>if b=x then 5 else if b=pf then 2 else if b∈bs.map (·.2) then 10+(bs.map (·.2)).idxOf b else if b < base then 1 else 0:=⟨_,rfl⟩
     have hox:ow x=5:=by rw[how];simp
     have hpx:pf≠x:=by have:=hlt HHi.o;omega
     have hof:ow pf=2:=by rw[how];simp[hpx]
     have hless:=HBx.o.less
     have ho1:∀ b,b≠x→b≠pf→(∀ p∈bs,b≠p.2)→ow b=if b < base then 1 else 0:=by
      intro b h1 h2 h3
      rw[how]
      simp only[h1,h2,if_false]
      rw[if_neg]
      intro hm
      obtain⟨p,hp,e⟩:=List.mem_map.1 hm
      exact h3 p hp e.symm
     have ho0:∀ b,b≠x→b≠pf→(∀ p∈bs,b≠p.2)→base≤b→ow b=0:=λb h1 h2 h3 h4=>by rw[ho1 b h1 h2 h3,if_neg (by omega)]
     have hbw:=HB2.o.size
     have hbnd1:∀ b,b < w3.heap.size→b≠x→ow b=if b < base then 1 else 0:=λb hb hbx=>ho1 b hbx (by omega) (λp hp=>by have:=(HBx.o.lo p hp).2;omega)
     have hbnd:∀ b,b < w3.heap.size→b≠x→base≤b→ow b=0:=λb hb hbx h4=>by rw[hbnd1 b hb hbx,if_neg (by omega)]
     have hFarm:Farm w8 ow x st { pf:=pf,A:=none,c:=0,lv:=.slice Aj st.fs.length cj,bv:=.slice Ab (st.workers+1) cb,bp:=.pointer none,tp:=.pointer none,bs:=bs,bxs:=List.replicate (st.workers+1) [] } (List.replicate (st.workers+1) []):=by
      refine⟨?_,hox,?_,?_,hof,?_,?_,?_,?_,?_,?_⟩
      ·rw[hh8]
       simp only[newCells,farmCells,HS.o.now]
       rfl
      ·refine hk8.sk.stay (λb hb hbl=>⟨?_,rfl⟩)
       rcases hb with hb|hb
       ·exact hbnd b (HK.o.lt b hb) (HOk.o b hb).1 (HOk.o b hb).2
       ·have:=hkl b hb.symm;exact hbnd b this.2 (by omega) (by omega)
      ·rw[HJs.o]
       exact hf8
      ·intro _ a ha;cases ha
      ·obtain⟨A',c',e,hrow,-,-,hc',-⟩:=own_row hbx8.own
       simp only[Value.slice.injEq] at e
       obtain⟨rfl,-,rfl⟩:=e
       refine⟨Ab,cb,by rw[hbl],by rw[hbl];rw[hbl] at hc';exact hc',hrow,λa ha=>?_⟩
       obtain⟨g,cap,e,hg⟩:=own_form hbx8.own (by rw[hbl];omega)
       simp only[Value.slice.injEq] at e
       obtain⟨rfl,-,rfl⟩:=e
       cases ha
       have hgl:=(HBx.o.own.lt g rfl)
       exact ho0 g (by omega) (by omega) (λp hp e=>(HBx.o.row p hp).2 (by rw[←e];rfl)) (by omega)
      ·intro i hi
       dsimp only at hi⊢
       have hi':i < st.workers+1:=by rw[←hbl];exact hi
       have e0:(List.replicate (st.workers+1) ([]:List Value)).getD i []=[]:=by simp[List.getD_eq_getElem?_getD,List.getElem?_replicate,hi']
       have hl9:=HBx.o.lo _ (List.getElem_mem hi)
       have hm9:=hless _ (List.getElem_mem hi)
       rw[e0]
       refine⟨hbx8.at_ i hi,ho0 _ (by omega) (by omega) ?_ (by omega),?_⟩
       ·intro p hp e
        obtain⟨j2,hj2,rfl⟩:=List.getElem_of_mem hp
        rcases Nat.lt_trichotomy i j2 with h|h|h
        ·have h8:=(List.pairwise_iff_getElem.1 HBx.o.pw i j2 hi hj2 h).2.1;omega
        ·subst h;exact(hbx8.at_ i hi).ne e
        ·have h8:=(List.pairwise_iff_getElem.1 HBx.o.pw j2 i hj2 hi h).2.2.1;omega
       ·rw[how]
        dsimp only
        rw[if_neg (by omega),if_neg (by omega),if_pos (List.mem_map_of_mem (List.getElem_mem hi))]
        have hi3:i < (bs.map (·.2)).length:=by rw[List.length_map];exact hi
        have e9:bs[i].2=(bs.map (·.2))[i]:=by rw[List.getElem_map]
        rw[e9,List.Nodup.idxOf_getElem hcs i hi3]
      ·intro i hi
       have hi':i < st.workers+1:=by rw[←hbl];exact hi
       have e0:(List.replicate (st.workers+1) ([]:List Value)).getD i []=[]:=by simp[List.getD_eq_getElem?_getD,List.getElem?_replicate,hi']
       have e1:(List.replicate (st.workers+1) ([]:List (List UInt8))).getD i []=[]:=by simp[List.getD_eq_getElem?_getD,List.getElem?_replicate,hi']
       simp only[e0,e1]
       exact⟨rfl,λj h1=>absurd h1 (by simp)⟩
      ·exact⟨hbl,by simp,by simp⟩
      ·intro b hb
       exact ho0 b (by omega) (by omega) (λp hp=>by have:=(hless p hp).2;have:=hb7.size;omega) (by omega)
     have HSt:=Hm (start_ok w8 ow x st _ _ hFarm ⟨by rw[HJs.o];exact List.Pairwise.nil,by rw[HJs.o];exact(λp hp=>by cases hp),by rw[HJs.o];exact Nat.zero_le _,by rw[HJs.o];exact(λp hp=>by cases hp)⟩ HS.o rfl rfl)
     have HE:=Hm (And.intro hb8 (λb (hb:b < w.heap.size)=>hbnd1 b (by have:=HB2.o.size;omega) (by omega)))
     have HI0:Hd (∀ n,(n=2∨n=5)→n≠0):=⟨by omega⟩
     have hsz0:=hb8.size
     have HZ:=Hm (And.intro hsz0 (And.intro hox (And.intro hof (And.intro hxq (And.intro hpf (And.intro hs3 hsr))))))
     clear hFarm ho0 ho1 hbnd hbnd1 hcs how hox hof hpx hless hh7 hh8 hg8 ho8 hf8 hbx8 hk8 hb8 hf7 hb7 hpfl hsz8 hsz0 hkl z5 hql hpf hxq hs3 hsr HFn HBx HK HL
     go_wp2_with fail
     refine HSt.o.mono ?_
     rintro e w9 ⟨rfl,ow9,h9,jobs,t9,f9,u9,-,-,hz9⟩
     have HF9:Hd (NewPost w base st (.returned (.tuple #[.pointer (some ⟨x,0,none⟩),.int .i64 0])) w9):=⟨x,ow9,h9,jobs,rfl,by
       refine(Only.belLeft HE.o.1 t9.only).toBel (λb hb e=>?_)
       have:=HE.o.2 b hb
       split at this<;>rcases e with e|e<;>omega,λb hb=>by rw[t9.old b (by have:=HZ.o.1;omega)];exact HE.o.2 b hb,f9,u9,hz9 HJs.o⟩
     clear t9 f9 u9
     go_wp2
     go_ret2
     exact HF9.o
def timesOf (a b c:Nat):Ls.Times:=⟨1+a % 20,1+b % 10,1+b % 10+c % 60⟩
theorem times_any (a b c:Nat) (w:World):Calls Tryz.prog 46 #[.agg #[.int .u64 a,.int .u64 b,.int .u64 c]] w λe w'=>e=.returned (.agg #[.int .u64 (timesOf a b c).lease,.int .u64 (timesOf a b c).wait,.int .u64 (timesOf a b c).most])∧Bel w w':=by
 have h1:(a:Int).tmod 20=((a % 20:Nat):Int):=rfl
 have h2:(b:Int).tmod 10=((b % 10:Nat):Int):=rfl
 have h3:(c:Int).tmod 60=((c % 60:Nat):Int):=rfl
 have k1:a % 20 < 20:=Nat.mod_lt _ (by omega)
 have k2:b % 10 < 10:=Nat.mod_lt _ (by omega)
 have k3:c % 60 < 60:=Nat.mod_lt _ (by omega)
 unfold timesOf
 dsimp only
 generalize a % 20=x at *
 generalize b % 10=y at *
 generalize c % 60=z at *
 have w1:IntKind.u64.wrap (1+(x:Int))=((1+x:Nat):Int):=by have:=wrap_u64 (1+x) (by omega);push_cast at this⊢;exact this
 have w2:IntKind.u64.wrap (1+(y:Int))=((1+y:Nat):Int):=by have:=wrap_u64 (1+y) (by omega);push_cast at this⊢;exact this
 have w3:IntKind.u64.wrap (((1+y:Nat):Int)+(z:Int))=((1+y+z:Nat):Int):=by have:=wrap_u64 (1+y+z) (by omega);push_cast at this⊢;exact this
 go_enter Tryz.func46,Tryz.ntmps46
 go_wp2_with fail
 exact bodyPost_ret (v:=.agg #[.int .u64 ((1+x:Nat):Int),.int .u64 ((1+y:Nat):Int),.int .u64 ((1+y+z:Nat):Int)]) (by simp[results,Tryz.results46,go_sem]) rfl ⟨rfl,bA (bA (bA (bR _) _) _) _⟩
def cfgOf (r k x a b c:Nat) (fs:List Func):FSt:=⟨3+r % 6,1+k % 3,timesOf a b c,262144,1+x % 6,fs,0,[]⟩
theorem config_any (r k x a b c:Nat) (hr:r < 256) (hk:k < 256) (hx:x < 256) (V:Value) (hV:V.oneCell'=true) (fs:List Func) (w:World) :
  Calls Tryz.prog 19 #[.agg #[.int .u8 r,.int .u8 k,.int .u8 x,.int .u64 a,.int .u64 b,.int .u64 c,V]] w λe w'=>e=.returned (confV (cfgOf r k x a b c fs))∧Bel w w':=by
 have h1:(r:Int).tmod 6=((r % 6:Nat):Int):=rfl
 have h2:(k:Int).tmod 3=((k % 3:Nat):Int):=rfl
 have h3:(x:Int).tmod 6=((x % 6:Nat):Int):=rfl
 have k1:r % 6 < 6:=Nat.mod_lt _ (by omega)
 have k2:k % 3 < 3:=Nat.mod_lt _ (by omega)
 have k3:x % 6 < 6:=Nat.mod_lt _ (by omega)
 unfold confV cfgOf
 dsimp only
 generalize r % 6=r' at *
 generalize k % 3=k' at *
 generalize x % 6=x' at *
 have w1:IntKind.i64.wrap (r':Int)=(r':Int):=by simp[IntKind.wrap,IntKind.bits,IntKind.signed];omega
 have w2:IntKind.i64.wrap (k':Int)=(k':Int):=by simp[IntKind.wrap,IntKind.bits,IntKind.signed];omega
 have w3:IntKind.i64.wrap (x':Int)=(x':Int):=by simp[IntKind.wrap,IntKind.bits,IntKind.signed];omega
 go_enter Tryz.func19,Tryz.ntmps19
 go_wp2_with fail
 refine rgn [.rd 0,.rd 1,.rd 2,.rd 3,.rd 4,.rd 5,.rd 6,.rd 7,.rd 8,.rd 9,.rd 10,.rd 11,.rd 13,.rd 14,.rd 15,.rd 16,.rd 17,.hv 12 [0,1,2,3,4,5,6,7,8,9,13,14,15,16,17],.rd 18,.hv 19 []] (n:=22) rfl ?_
 iterate 17 (refine line_rd rfl (λK hK=>?_);go_simp;refine hK _ ?_;clear hK K)
 refine line_hv rfl ?_
 go_wp2_with fail
 have hb0:Bel w ((w.alloc (.cells #[.int .u8 r,.int .u8 k,.int .u8 x,.int .u64 a,.int .u64 b,.int .u64 c,V] 27)).alloc (.cells #[.int .i64 0,.int .i64 0,.int .u64 0,.int .u64 0,.int .u64 0,.int .i64 0,.int .i64 0] 33)).drew:=bD (bA (bA (bR w) _) _)
 have hz:(((w.alloc (.cells #[.int .u8 r,.int .u8 k,.int .u8 x,.int .u64 a,.int .u64 b,.int .u64 c,V] 27)).alloc (.cells #[.int .i64 0,.int .i64 0,.int .u64 0,.int .u64 0,.int .u64 0,.int .i64 0,.int .i64 0] 33)).drew).heap[w.heap.size+1]?=some (.cells #[.int .i64 0,.int .i64 0,.int .u64 0,.int .u64 0,.int .u64 0,.int .i64 0,.int .i64 0] 33 (0,0)):=hnew (w:=w.alloc _) (by simp)
 have hy:(((w.alloc (.cells #[.int .u8 r,.int .u8 k,.int .u8 x,.int .u64 a,.int .u64 b,.int .u64 c,V] 27)).alloc (.cells #[.int .i64 0,.int .i64 0,.int .u64 0,.int .u64 0,.int .u64 0,.int .i64 0,.int .i64 0] 33)).drew).heap[w.heap.size]?=some (.cells #[.int .u8 r,.int .u8 k,.int .u8 x,.int .u64 a,.int .u64 b,.int .u64 c,V] 27 (0,0)):=hold (w:=w.alloc _) (hnew rfl) (by simp)
 generalize ((w.alloc (.cells #[.int .u8 r,.int .u8 k,.int .u8 x,.int .u64 a,.int .u64 b,.int .u64 c,V] 27)).alloc (.cells #[.int .i64 0,.int .i64 0,.int .u64 0,.int .u64 0,.int .u64 0,.int .i64 0,.int .i64 0] 33)).drew=X at hb0 hz hy⊢
 refine(times_any a b c X).mono ?_
 rintro e w2 ⟨rfl,hb2⟩
 have hz2:=bHeap hb2 hz
 have hy2:=bHeap hb2 hy
 obtain⟨q0,q1,q2,q3,q4,q5⟩:=cC6 hy2
 have HB:=Hm (bT hb0 hb2)
 obtain⟨g0,g1,g2,g3,g4,g5,g6⟩:=cC7 hz2
 obtain⟨f0,f1,f2,f3,f4,f5,f6⟩:=fF7 hz2
 have hl2:=hlt hz2
 clear hb0 hz hy hb2 hy2
 go_wp2_with fail
 refine⟨?_,?_⟩
 ·simp only[Again,slotOf]
  go_simp
  refine⟨?_,?_,?_⟩<;>(simp[IntKind.wrap,IntKind.bits,IntKind.signed];omega)
 iterate 1 (refine line_rd rfl (λK hK=>?_);go_simp;refine hK _ ?_;clear hK K)
 refine line_hv rfl ?_
 go_wp2_with fail
 refine⟨?_,?_⟩
 ·exact trivial
 unfold Line
 go_wp2_with fail
 have hB:=bC (bC (bC (bC (bC (bC (bC HB.o (Nat.le_succ w.heap.size) 0 (.int .i64 (3+r'))) (Nat.le_succ w.heap.size) 1 (.int .i64 (1+k'))) (Nat.le_succ w.heap.size) 2 (.int .u64 (timesOf a b c).lease)) (Nat.le_succ w.heap.size) 3 (.int .u64 (timesOf a b c).wait)) (Nat.le_succ w.heap.size) 4 (.int .u64 (timesOf a b c).most)) (Nat.le_succ w.heap.size) 5 (.int .i64 262144)) (Nat.le_succ w.heap.size) 6 (.int .i64 (1+x'))
 have hqf:=set_at (set_at (set_at (set_at (set_at (set_at (set_at hz2 0 (.int .i64 (3+r'))) 1 (.int .i64 (1+k'))) 2 (.int .u64 (timesOf a b c).lease)) 3 (.int .u64 (timesOf a b c).wait)) 4 (.int .u64 (timesOf a b c).most)) 5 (.int .i64 262144)) 6 (.int .i64 (1+x'))
 obtain⟨y0,y1,y2,y3,y4,y5,y6⟩:=cC7 hqf
 exact bodyPost_ret (v:=.agg #[.int .i64 ((3+r':Nat):Int),.int .i64 ((1+k':Nat):Int),.int .u64 (timesOf a b c).lease,.int .u64 (timesOf a b c).wait,.int .u64 (timesOf a b c).most,.int .i64 ((262144:Nat):Int),.int .i64 ((1+x':Nat):Int)]) (by simp[results,Tryz.results19,go_sem,y0,y1,y2,y3,y4,y5,y6]) rfl ⟨rfl,hB⟩
theorem Farm.boxTurn {w w':World} {ow:Nat→Nat} {x:Nat} {st:FSt} {h:Hds} {lt:List (List (List UInt8))} (f:Farm w ow x st h lt) (i:Nat) (hi:i < h.bs.length) (t:Turn w w' ow ow (λn=>n=10+i)) (xs:List Value) (ls:List (List UInt8))
  (hb:Bx.BoxAt w' h.bs[i].1 h.bs[i].2 162 st.box xs) (hl:xs.length=ls.length) (hls:∀ j (h1:j < xs.length) (h2:j < ls.length),LetterAt w' ow xs[j] ls[j]):Farm w' ow x st { h with bxs:=h.bxs.set i xs } (lt.set i ls):=by
 have z:=t.zero
 have i5:¬ow x=10+i:=by rw[f.ox];omega
 have i2:¬ow h.pf=10+i:=by rw[f.of_];omega
 have hbl:i < h.bxs.length:=by have:=f.lens;omega
 have hll:i < lt.length:=by have:=f.lens;omega
 refine⟨t.heap f.head i5,f.ox,f.funcs.stay t.stays,f.file.only' t.only i2 (λh0 a ha=>by rw[f.oA h0 a ha];exact z),f.of_,f.oA,?_,λk hk=>?_,λk hk=>?_,by simpa using f.lens,λb hb'=>f.new b (Nat.le_trans t.only.size hb')⟩
 ·obtain⟨Ab,cb,e1,e2,e3,e4⟩:=f.row
  exact⟨Ab,cb,e1,e2,t.row e3 e4,e4⟩
 ·by_cases e:k=i
  ·subst e
   have e0:(h.bxs.set k xs).getD k []=xs:=by simp[List.getD_eq_getElem?_getD,hbl]
   rw[show ({ h with bxs:=h.bxs.set k xs }:Hds).bxs=h.bxs.set k xs from rfl,e0]
   exact⟨hb,(f.boxes k hk).2⟩
  ·have e0:(h.bxs.set i xs).getD k []=h.bxs.getD k []:=by simp[List.getD_eq_getElem?_getD,List.getElem?_set,show ¬i=k from λx=>e x.symm]
   rw[show ({ h with bxs:=h.bxs.set i xs }:Hds).bxs=h.bxs.set i xs from rfl,e0]
   obtain⟨b1,b2,b3⟩:=f.boxes k hk
   exact⟨b1.turn t (by rw[b2];exact z) (by rw[b3];omega),b2,b3⟩
 ·by_cases e:k=i
  ·subst e
   have e0:(h.bxs.set k xs).getD k []=xs:=by simp[List.getD_eq_getElem?_getD,hbl]
   have e1:(lt.set k ls).getD k []=ls:=by simp[List.getD_eq_getElem?_getD,hll]
   simp only[show ({ h with bxs:=h.bxs.set k xs }:Hds).bxs=h.bxs.set k xs from rfl,e0,e1]
   exact⟨hl,hls⟩
  ·have e0:(h.bxs.set i xs).getD k []=h.bxs.getD k []:=by simp[List.getD_eq_getElem?_getD,List.getElem?_set,show ¬i=k from λx=>e x.symm]
   have e1:(lt.set i ls).getD k []=lt.getD k []:=by simp[List.getD_eq_getElem?_getD,List.getElem?_set,show ¬i=k from λx=>e x.symm]
   simp only[show ({ h with bxs:=h.bxs.set i xs }:Hds).bxs=h.bxs.set i xs from rfl,e0,e1]
   exact⟨(f.letters k hk).1,λj h1 h2=>((f.letters k hk).2 j h1 h2).turn t⟩
def actV (kind who:Int) (best:Bool) (keep body:Value):Value:=.agg #[.int .i64 kind,.int .i64 who,.bool best,keep,body]
def SendPost (w:World) (ow:Nat→Nat) (x:Nat) (st:FSt) (h:Hds) (lt:List (List (List UInt8))) (w':World):Prop :=
 ∃ h',Turn w w' ow ow (λn=>n=10)∧Farm w' ow x st h' lt∧h'.bp=h.bp∧h'.tp=h.tp∧h'.pf=h.pf∧h'.bs=h.bs
theorem send_fin {w wp w':World} {ow:Nat→Nat} {x:Nat} {st:FSt} {h:Hds} {lt:List (List (List UInt8))} (f:Farm w ow x st h lt) (h0:0 < h.bs.length) (hb:Bel w wp) {v:Value} {body:List UInt8} (ho:OwnB wp w.heap.size v body)
  (hs:Bx.Step wp w' h.bs[0].2 st.box (h.bxs.getD 0 []++[v])) (hr:(lt.getD 0 []).length < st.box):SendPost w ow x st h (lt.set 0 (lt.getD 0 []++[body])) w':=by
 have fp:=f.bel hb
 obtain⟨b1,b2,b3⟩:=fp.boxes 0 h0
 have hl0:=f.letters 0 h0
 have t1:Turn wp w' ow ow (λn=>n=10+0):=⟨(Only.grown (F:=λb=>b=h.bs[0].2) hs.grown (λg e=>by cases e;rfl)).weaken (λb _ e=>by rw[e];exact b3),λ_ _=>rfl,by omega⟩
 have t:Turn w w' ow ow (λn=>n=10):=⟨Only.belLeft hb t1.only,λ_ _=>rfl,by omega⟩
 obtain⟨A,c,rfl,hrow,-,hfr,hcap,-⟩:=own_row ho
 have hnew:LetterAt wp ow (.slice A body.length c) body:=⟨A,c,rfl,hrow,hcap,λ_ a ha=>f.new _ (hfr a ha)⟩
 refine⟨_,t,fp.boxTurn 0 h0 t1 _ _ (b1.step hs (by rw[List.length_append,hl0.1];exact hr)) (by rw[List.length_append,List.length_append,hl0.1];rfl) (λj h1 h2=>?_),rfl,rfl,rfl,rfl⟩
 by_cases hj:j < (h.bxs.getD 0 []).length
 ·rw[List.getElem_append_left hj,List.getElem_append_left (by rw[←hl0.1];exact hj)]
  exact((fp.letters 0 h0).2 j hj (by rw[←hl0.1];exact hj)).turn t1
 ·have h3:(h.bxs.getD 0 []++[Value.slice A body.length c]).length=(h.bxs.getD 0 []).length+1:=by rw[List.length_append];rfl
  have hj2:j=(h.bxs.getD 0 []).length:=by omega
  rw[List.getElem_append_right (by omega),List.getElem_append_right (by rw[←hl0.1];omega)]
  simp only[hj2,hl0.1,Nat.sub_self,List.getElem_cons_zero]
  exact hnew.turn t1
theorem send_ok (w:World) (ow:Nat→Nat) (x:Nat) (st:FSt) (h:Hds) (lt:List (List (List UInt8))) (f:Farm w ow x st h lt) (hw3:st.workers≤3) (hr:(lt.getD 0 []).length < st.box) (keep:Value) (hkp:keep.oneCell'=true) (best:Bool) (body:List UInt8) (A:Option Addr) (c:Nat) (hA:Bytes w A body) (hl:body.length≤131072) (hc:body.length≤c) :
  Calls Tryz.prog 11 #[.pointer (some ⟨x,0,none⟩),actV 7 0 best keep (.slice A body.length c)] w λe w'=>e=.returned (.int .i64 0)∧SendPost w ow x st h (lt.set 0 (lt.getD 0 []++[body])) w':=by
 have h0:0 < h.bs.length:=by have:=f.lens;omega
 have HF:=Hm f
 have HA:=Hm hA
 have HR:=Hm hr
 have hnl:¬131072 < (body.length:Int):=by omega
 have HBox:=Hm (λ(wx:World) (hb:Bel w wx)=>box_0 wx ow x st h lt (f.bel hb) h0 hw3)
 have HPut:=Hm (λ(wx:World) (v:Value) (hb:Bel w wx)=>Bx.put_room h.bs[0].1 h.bs[0].2 st.box (h.bxs.getD 0 []) v wx ((f.bel hb).boxes 0 h0).1 (by rw[(f.letters 0 h0).1];exact hr))
 have HH0:=Hm h0
 have HFin:=Hm (λ(wp w':World) (v:Value) (hb:Bel w wp) (ho:OwnB wp w.heap.size v body) (hs:Bx.Step wp w' h.bs[0].2 st.box (h.bxs.getD 0 []++[v]))=>send_fin f h0 hb ho hs hr)
 generalize h.bs[0].1=bp0 at *
 generalize h.bs[0].2=bc0 at *
 clear f hA hr h0 hw3
 unfold actV
 go_enter Tryz.func11,Tryz.ntmps11
 go_wp2_with fail
 refine rgt (.rd 0 (.rd 1 (.rd 5 (.rd 2 (.rd 6 (.br 3 [5,6] (.hv 4 [5,6] (.hv 7 [] (.hv 8 [] (.rd 9 (.nil))))) (.hv 4 [0,1,5,2,6] (.hv 3 [5,6] (.hv 7 [] (.hv 8 [] (.rd 9 (.nil)))))))))))) (n:=90) rfl ?_
 iterate 5 (refine tree_rd rfl (λK hK=>?_);go_simp;refine hK _ ?_;clear hK K)
 refine tree_br rfl ?_ ?_
 ·go_wp2_with fail
  refine(HBox.o _ (bD (bA (bR w) _))).mono ?_
  rintro e w2 ⟨rfl,hb2'⟩
  have hb2:Bel (w.alloc (.cells #[.int .i64 7,.int .i64 0,.bool best,keep,.slice A body.length c] 42)) w2:=bU hb2'
  have q4:w2.cell? ⟨w.heap.size,4,none⟩=some (.slice A body.length c):=bCell hb2 (by go_simp)
  have HB2:=Hm (bT (bA (bR w) _) hb2)
  have hql:=World.block_lt_of_cell? w2 _ q4
  have hsw:=HB2.o.size
  dsimp only at hql
  clear hb2 hb2'
  go_wp2_with fail
  refine⟨?_,?_⟩
  ·simp only[Again,slotOf]
   go_simp
  refine tree_hv rfl ?_
  go_wp2_with fail
  refine⟨?_,?_⟩
  ·simp only[Again,slotOf]
   go_simp
  refine tree_hv rfl ?_
  have HB3:=Hm (bA HB2.o (.cells #[] 5))
  have HE:=Hm (own_empty w2 w.heap.size 5 1 w2.heap.size rfl hsw)
  refine app0 iByte Tryz.underlying38 rfl (.tmp 70) (.tmp 72) rfl rfl HE.o (by have:=HB3.o.size;exact this) (A:=A) (m:=body.length) (c:=c) rfl (HA.o.below HB3.o) (by simp) (by omega) ?_
  intro v4 w4 hb4 ho4
  have ho4':OwnB w4 w.heap.size v4 body:=ho4
  obtain⟨A4,c4,rfl,-⟩:=own_row ho4'
  have HB4:=Hm (bT HB3.o hb4)
  have HO4:=Hm ho4'
  clear hb4 ho4 ho4'
  go_wp2_with fail
  refine⟨?_,?_⟩
  ·exact trivial
  refine tree_hv rfl ?_
  go_wp2_with fail
  refine(HPut.o _ (.slice A4 body.length c4) HB4.o).mono ?_
  rintro e w5 ⟨rfl,hs5⟩
  have HS5:=Hm (HFin.o _ _ _ HB4.o HO4.o hs5)
  clear hs5
  go_wp2_with fail
  refine⟨?_,?_⟩
  ·exact trivial
  iterate 1 (refine tree_rd rfl (λK hK=>?_);go_simp;refine hK _ ?_;clear hK K)
  unfold TreeL
  go_wp2
  go_ret
  exact⟨rfl,HS5.o⟩
 ·refine tree_hv rfl ?_
  go_wp2_with fail
  refine⟨?_,?_⟩
  ·simp only[Again,slotOf]
   go_simp
  refine tree_hv rfl ?_
  go_wp2_with fail
  refine(HBox.o _ (bA (bD (bA (bR w) _)) _)).mono ?_
  rintro e w2 ⟨rfl,hb2⟩
  have q4:w2.cell? ⟨w.heap.size,4,none⟩=some (.slice A body.length c):=bCell hb2 (by go_simp)
  have HB3:=Hm (bT (bA (bD (bA (bR w) _)) _) hb2)
  have hql:=World.block_lt_of_cell? w2 _ q4
  dsimp only at hql
  have HE:Hd (w2.ownsRow w.heap.size 5 1 (.slice (some ⟨w.heap.size+1,0,none⟩) 0 0) 0 []):=⟨own_below (own_empty (w.alloc (.cells #[.int .i64 7,.int .i64 0,.bool best,keep,.slice A body.length c] 42)).drew w.heap.size 5 1 (w.heap.size+1) (by show _=(w.alloc _).heap.size;simp) (by show _≤(w.alloc _).heap.size;simp)) hb2⟩
  clear hb2
  go_wp2_with fail
  refine⟨?_,?_⟩
  ·simp only[Again,slotOf]
   go_simp
  refine tree_hv rfl ?_
  refine app0 iByte Tryz.underlying38 rfl (.tmp 70) (.tmp 72) rfl rfl HE.o (by have:=HB3.o.size;exact this) (A:=A) (m:=body.length) (c:=c) rfl (HA.o.below HB3.o) (by simp) (by omega) ?_
  intro v4 w4 hb4 ho4
  have ho4':OwnB w4 w.heap.size v4 body:=ho4
  obtain⟨A4,c4,rfl,-⟩:=own_row ho4'
  have HB4:=Hm (bT HB3.o hb4)
  have HO4:=Hm ho4'
  clear hb4 ho4 ho4'
  go_wp2_with fail
  refine⟨?_,?_⟩
  ·exact trivial
  refine tree_hv rfl ?_
  go_wp2_with fail
  refine(HPut.o _ (.slice A4 body.length c4) HB4.o).mono ?_
  rintro e w5 ⟨rfl,hs5⟩
  have HS5:=Hm (HFin.o _ _ _ HB4.o HO4.o hs5)
  clear hs5
  go_wp2_with fail
  refine⟨?_,?_⟩
  ·exact trivial
  iterate 1 (refine tree_rd rfl (λK hK=>?_);go_simp;refine hK _ ?_;clear hK K)
  unfold TreeL
  go_wp2
  go_ret
  exact⟨rfl,HS5.o⟩
structure TellOk (st:FSt) (job lease:Nat) (c:Code) (cert:List (List PairV)):Prop where
 jl:job < st.fs.length
 j16:job < 16
 ll:lease < 18446744073709551616
 rg:c.regs=st.regs
 code:CodeOk c
 fine:∀ b∈c.blocks,BlockFine b
 c16:cert.length≤16
 pairs:∀ l∈cert,PairsFine l
 len:(tellBody job lease c cert).length≤65536
 ver:∀ (h:job < st.fs.length),Verified st.fs[job] c cert
def letterOf (job lease:Nat) (c:Code) (cert:List (List PairV)):List UInt8:=layF 3 (tellBody job lease c cert)
theorem judge_ok (w:World) (ow:Nat→Nat) (x:Nat) (st:FSt) (h:Hds) (lt:List (List (List UInt8))) (f:Farm w ow x st h lt) (jobs:List Ls.Job) (last:Nat) (u:FarmUp w ow st h jobs last) (job lease:Nat) (c:Code) (cert:List (List PairV)) (ht:TellOk st job lease c cert) (hd:job∉st.js.map (·.1))
  (A:Option Addr) (ca:Nat) (hA:Bytes w A (letterOf job lease c cert)) (hca:(letterOf job lease c cert).length≤ca) :
  Calls Tryz.prog 67 #[.pointer (some ⟨x,0,none⟩),.slice A (letterOf job lease c cert).length ca] w λe w'=>∃ V,e=.returned (.tuple #[.int .i64 job,V,.int .i64 0])∧Bel w w'∧NewB w w' V (encCode c):=by
 have HT:=Hm (takeTell_any job lease ht.j16 ht.ll c ht.code ht.fine cert ht.c16 ht.pairs ht.len A ca w hA hca)
 obtain⟨⟨pb,base,ok,kv,vv,pt,Bt,e1,e2,hb,htb,-⟩,hlen,hdn⟩:=u
 have hji:job < jobs.length:=by rw[hlen];exact ht.jl
 have hjd:jobs[job].done=false:=by rw[hdn job hji];exact decide_eq_false hd
 have HAn:=Hm (λ(wx:World) (hx:Bel w wx)=>Ls.answer_in pt Bt jobs st.t last job lease wx (htb.old hx) hji ht.ll)
 have HAc:Hd (Ls.answerIn jobs[job] lease=0∨Ls.answerIn jobs[job] lease=60):=⟨by unfold Ls.answerIn;rw[if_neg (by simp[hjd])];split;exact .inr rfl;exact .inl rfl⟩
 have c11:w.cell? ⟨x,11,none⟩=some h.tp:=f.cell 11
 rw[e2] at c11
 have c0:w.cell? ⟨x,0,none⟩=some (.int .i64 st.regs):=f.cell 0
 have c7:w.cell? ⟨x,7,none⟩=some h.lv:=f.cell 7
 have hjl:=ht.jl
 obtain⟨bf,of_,cf,vf,ef,-,hskf,-,-,z0,z1,z2⟩:=sk_func f.funcs job hjl
 rw[ef] at c7
 obtain⟨Af,cf1,rfl,-⟩:=sk_form hskf
 have HVr:=Hm (ht.ver hjl)
 have HSf:=Hm hskf
 have hrg:=ht.rg
 have HTc:=Hm (And.intro ht.code ht.fine)
 have hp:=f.size
 have hca':=hca
 unfold letterOf at *
 generalize (layF 3 (tellBody job lease c cert)).length=n at *
 generalize Ls.answerIn jobs[job] lease=ac at *
 clear f hb htb hlen hdn hA hca hjd hji e1 e2 ht hd hca' ef hskf
 generalize st.fs[job]=fn at *
 obtain⟨cp,cr,cs,cb⟩:=c
 obtain⟨fp,fv,fb⟩:=fn
 dsimp only at *
 subst hrg
 have hrf:=run_fault
 go_enter Tryz.func67,Tryz.ntmps67
 go_wp2_with fail
 refine HT.o.mono ?_
 unfold TellPost
 rintro e w1 ⟨hb1,v,uu,ok1,ok2,rfl,hs1,hs2,-,-⟩
 have HVe:=Hm (λ(wx:World) (hx:Bel w1 wx)=>verify_ok _ _ cert HVr.o _ _ _ (.slice Af fb.length cf1) v uu wx (sk_bel HSf.o (bT hb1 hx)) (sk_bel hs1 hx) (sk_bel hs2 hx))
 have HWc:=Hm (λ(wx:World) (hx:Bel w1 wx)=>wcode_any _ HTc.o.1 HTc.o.2 ok1 v wx (sk_bel hs1 hx))
 obtain⟨A1,c1,rfl,-⟩:=sk_form hs1
 obtain⟨A2,c2,rfl,-⟩:=sk_form hs2
 replace c11:=bCell hb1 c11
 replace c0:=bCell hb1 c0
 replace c7:=bCell hb1 c7
 replace z0:=bCell hb1 z0
 replace z1:=bCell hb1 z1
 replace z2:=bCell hb1 z2
 replace hp:=World.block_lt_of_cell? w1 _ c11
 have hbf:=World.block_lt_of_cell? w1 _ z0
 have HB1:=Hm hb1
 clear hb1 hs1 hs2
 dsimp only at *
 go_wp2_with fail
 refine rgn [.rd 0,.rd 1,.rd 2,.rd 3,.rd 4,.rd 5,.rd 6,.rd 7,.hv 8 [],.rd 9] (n:=86) rfl ?_
 iterate 8 (refine line_rd rfl (λK hK=>?_);go_simp;refine hK _ ?_;clear hK K)
 refine line_hv rfl ?_
 go_wp2_with fail
 refine(HAn.o _ (bD (bA HB1.o _))).mono ?_
 rintro e w3 ⟨rfl,rfl⟩
 go_wp2_with fail
 refine⟨?_,?_⟩
 ·exact trivial
 iterate 1 (refine line_rd rfl (λK hK=>?_);go_simp;refine hK _ ?_;clear hK K)
 unfold Line
 have hac2:(ac == 2)=false:=by rcases HAc.o with h|h<;>rw[h]<;>rfl
 have hac61:(ac == 61)=false:=by rcases HAc.o with h|h<;>rw[h]<;>rfl
 go_wp2_with fail
 have hrs:((st.regs:Int) != st.regs)=false:=by simp
 refine rgn [.rd 0,.rd 1,.rd 2,.rd 3,.rd 4,.rd 5,.rd 6,.rd 7,.rd 8,.rd 9,.rd 10,.rd 11,.rd 12,.rd 13,.rd 14,.rd 15,.rd 16,.rd 17,.rd 18,.rd 19,.rd 20,.rd 21,.hv 22 [],.rd 23,.rd 24,.rd 25] (n:=86) rfl ?_
 iterate 22 (refine line_rd rfl (λK hK=>?_);go_simp;refine hK _ ?_;clear hK K)
 refine line_hv rfl ?_
 go_wp2_with fail
 refine(HVe.o _ (bD (bD (bA (bR _) _)))).mono ?_
 rintro e w4 ⟨rfl,hb4⟩
 have hh4:=bHeap (bU (bU hb4)) (hnew rfl)
 obtain⟨x0,-,x2,x3,x4,x5⟩:=cC6 hh4
 have hz4:=hlt hh4
 have HB4:=Hm (bT HB1.o (bUA (bU (bU hb4))))
 have HB5:=Hm (bUA (bU (bU hb4)))
 clear hb4 hh4 hac2 hac61
 go_wp2_with fail
 refine⟨?_,?_⟩
 ·exact trivial
 iterate 3 (refine line_rd rfl (λK hK=>?_);go_simp;refine hK _ ?_;clear hK K)
 unfold Line
 go_wp2_with fail
 refine(HWc.o _ HB5.o).mono ?_
 rintro e w5 ⟨hb5,V,rfl,hV⟩
 replace x0:=bCell hb5 x0
 have HB6:=Hm (And.intro (bT HB4.o hb5) (hV.base HB4.o))
 clear hb5 hV
 go_wp2_with fail
 go_ret3
 exact⟨V,rfl,HB6.o.1,HB6.o.2⟩
end Go.Proofs.YtjkgligohegaeaaGreatDoor
