/- Lemmas of the row. -/
import Derived.Test.YtjkgligohegaeaaGreatDoorN26
set_option linter.all false
set_option maxRecDepth 20000
set_option maxHeartbeats 12800000
namespace Go.Proofs.YtjkgligohegaeaaGreatDoor
open Go.RowKit
theorem ahead_one (l:List Ins) (ok:Nat→Prop) (V:Value) (w:World) (hv:Kd.SK kBlock w ok [⟨l,retE⟩] V):Calls Tryz.prog 157 #[V] w λe w'=>Bel w w'∧∃ g,e=.returned (.slice (some ⟨g,0,none⟩) 1 1)∧w'.heap[g]?=some (.cells #[.slice none 0 0] 29 (0,0)):=by
 have k2:∀ w,(Instr.makeSlice 279 (.int .i64 1) (.int .i64 1)).run Tryz.prog w=.ok (.slice (some ⟨w.heap.size,0,none⟩) 1 1) (w.alloc (.cells #[.slice none 0 0] 29)):=λ_=>by kernel_rfl
 obtain⟨b,off,c,u,rfl,-,hb,hu,y0,y1,y2,y3,y4⟩:=block_cells hv 0 (by simp) ⟨l,retE⟩ rfl
 obtain⟨A0,c0,e0,-⟩:=sk_form hu
 subst e0
 simp only[retE,Nat.zero_mul,Nat.add_zero] at y0 y1 y2 y3 y4
 clear hv hu
 go_enter Tryz.func157,Tryz.ntmps157
 go_wp2_with fail
 refine wp_loop_rounds 2 ?_
 rw[rounds_succ]
 go_wp2_with fail
 refine(next_any 3 1 0 0 _).mono ?_
 rintro e w1 ⟨v,rfl,A,c1,rfl,hb1,-⟩
 have HB:=Hm (bUA (bUA hb1))
 have HG:Hd (w1.heap[w.heap.size]?=some (.cells #[.slice none 0 0] 29 (0,0))):=⟨bHeap (bUA hb1) (hnew rfl)⟩
 clear hb1
 have hn:(nextL 3 0 0).length=0:=rfl
 rw[hn]
 go_wp2_with fail
 refine wp_loop_rounds 1 ?_
 rw[rounds_succ]
 go_wp2_with fail
 rw[rounds_succ]
 go_wp2_with fail
 go_ret
 exact⟨HB.o,_,rfl,HG.o⟩
theorem one_row {w:World} {ok:Nat→Prop} {v:Value} (h:Kd.SK kIns w ok [binI] v):∃ b off c A ca,v=.slice (some ⟨b,off,none⟩) 1 c∧Row w (some ⟨b,off,none⟩) [.int .u8 3,.int .u8 1,.int .i64 1,.int .i64 0,.int .i64 0,.int .i64 0,.slice A 0 ca]∧b < w.heap.size∧ca≤maxLen:=by
 have hm:∀ b off c A ca,v=.slice (some ⟨b,off,none⟩) 1 c→w.cell? ⟨b,off+6,none⟩=some (.slice A 0 ca)→ca≤maxLen:=by
  intro b off c A ca e hc6
  obtain⟨b',off',c',cs,e',-,-,-,hk,hc⟩:=h.at_ 0 (by simp)
  rw[e] at e'
  cases e'
  obtain⟨-,u,rfl,hu⟩:=kIns_open hk
  obtain⟨A',ca',e',-,hm,-⟩:=ski hu
  have:=hc 6 (by decide)
  simp only[Nat.zero_mul,Nat.add_zero] at this
  rw[hc6] at this
  simp at this
  rw[←this] at e'
  cases e'
  exact hm
 obtain⟨b,off,c,A,ca,rfl,-,hb,y0,y1,y2,y3,y4,y5,y6⟩:=ins_cells h 0 (by simp) binI rfl rfl
 simp only[binI,Nat.zero_mul,Nat.add_zero] at y0 y1 y2 y3 y4 y5 y6
 refine⟨b,off,c,A,ca,rfl,λj hj=>⟨b,off,rfl,?_⟩,hb,hm b off c A ca rfl y6⟩
 have:j=0∨j=1∨j=2∨j=3∨j=4∨j=5∨j=6:=by simp at hj;omega
 rcases this with rfl|rfl|rfl|rfl|rfl|rfl|rfl
 ·exact y0
 ·exact y1
 ·exact y2
 ·exact y3
 ·exact y4
 ·exact y5
 ·exact y6
def TaskZ (w:World) (p:Nat) (fB lV:Value) (n s:Int):Prop:=w.heap[p]?=some (.cells ([.int .i64 1,.int .i64 2,fB,lV,.int .i64 n,.int .i64 3,.int .i64 s,.slice none 0 0,.slice none 0 0]:List Value).toArray 252 (0,0))
theorem TaskZ.cells {w:World} {p:Nat} {fB lV:Value} {n s:Int} (h:TaskZ w p fB lV n s):w.cell? ⟨p,0,none⟩=some (.int .i64 1)∧w.cell? ⟨p,1,none⟩=some (.int .i64 2)∧w.cell? ⟨p,2,none⟩=some fB∧w.cell? ⟨p,3,none⟩=some lV∧w.cell? ⟨p,4,none⟩=some (.int .i64 n)∧w.cell? ⟨p,6,none⟩=some (.int .i64 s)∧w.frozen? ⟨p,3,none⟩=false∧w.frozen? ⟨p,4,none⟩=false∧w.frozen? ⟨p,6,none⟩=false∧p < w.heap.size :=
 ⟨hcell h 0,hcell h 1,hcell h 2,hcell h 3,hcell h 4,hcell h 6,hfree h 3,hfree h 4,hfree h 6,hlt h⟩
theorem own_setk {w:World} {base n:Nat} {e:TypeId} {sz g c:Nat} {xs:List Value} (h:w.ownsRow base e sz (.slice (some ⟨g,0,none⟩) n c) n xs) (hn:0 < n) (k:Nat) (x:Value):(w.setCell ⟨g,k,none⟩ x).ownsRow base e sz (.slice (some ⟨g,0,none⟩) n c) n (xs.set k x):=by
 refine⟨by simpa using h.1,.inr ?_⟩
 rcases h.2 with ⟨h,-⟩|⟨g',c',cur,e',hb,hh,h1,h2,h5,h6⟩
 ·cases h
 ·simp only[Value.slice.injEq,Option.some.injEq,Addr.mk.injEq,and_true,true_and] at e'
  obtain⟨rfl,rfl⟩:=e'
  refine⟨g,c,cur.set! k x,rfl,hb,by rw[Go.Joins.block_setCell hh _];rfl,h1,h2,by simpa using h5,?_⟩
  rw[←h6]
  simp[Array.set!,List.take_set]
theorem fits_bin:binI.Fits:=⟨wf8.2 (by simp[binI]),wf8.2 (by simp[binI]),wf64.2 (by simp[binI]),wf64.2 (by simp[binI]),wf64.2 (by simp[binI]),wf64.2 (by simp[binI])⟩
theorem fits_fil:filI.Fits:=⟨wf8.2 (by simp[filI]),wf8.2 (by simp[filI]),wf64.2 (by simp[filI]),wf64.2 (by simp[filI]),wf64.2 (by simp[filI]),wf64.2 (by simp[filI])⟩
theorem fits_ret:retE.Fits:=⟨wf8.2 (by simp[retE]),wf64.2 (by simp[retE]),wf64.2 (by simp[retE]),wf64.2 (by simp[retE])⟩
theorem begin_one (ok:Nat→Prop) (p:Nat) (fB:Value) (w:World) (hv:Kd.SK kBlock w ok [⟨[binI],retE⟩] fB) (hok:∀ b,ok b→b≠p) (h:TaskZ w p fB (.slice none 0 0) 0 0) :
  Calls Tryz.prog 131 #[.pointer (some ⟨p,0,none⟩)] w λe w'=>e=.returned (.tuple #[])∧Only w w' (λb=>b=p)∧∃ lV,TaskAt w' p fB lV∧Kd.SK kBlock w' (λb=>w.heap.size≤b) [⟨[filI,binI],retE⟩] lV:=by
 have HK:=Hm h
 have HV:=Hm hv
 have HO:=Hm hok
 obtain⟨b,off,c,u,rfl,hob,hb,hu,y0,y1,y2,y3,y4⟩:=block_cells hv 0 (by simp) ⟨[binI],retE⟩ rfl
 obtain⟨A0,c0,e0,-⟩:=sk_form hu
 subst e0
 have HU:=Hm hu
 simp only[retE,Nat.zero_mul,Nat.add_zero] at y0 y1 y2 y3 y4
 obtain⟨p0,p1,p2,p3,p4,p6,f3,f4,f6,pz⟩:=h.cells
 clear hv hu h hok
 go_enter Tryz.func131,Tryz.ntmps131
 go_wp2_with fail
 refine wp_loop_rounds 2 ?_
 rw[rounds_succ]
 go_wp2_with fail
 refine rgn [.rd 0,.rd 1,.rd 2,.rd 3,.rd 4,.rd 5,.hv 6 [0,1,2,3,4],.hv 7 [0,1,2,3,4],.hv 8 [0],.rd 9,.rd 10,.hv 11 []] (n:=122) rfl ?_
 iterate 6 (refine line_rd rfl (λK hK=>?_);go_simp;refine hK _ ?_;clear hK K)
 refine line_hv rfl ?_
 go_wp2_with fail
 have hb0:Bel w ((w.alloc (.cells #[.slice A0 1 c0,.int .u8 3,.int .i64 1,.int .i64 0,.int .i64 0] 97)).drew):=bD (bA (bR _) _)
 refine(copied_blk ⟨[binI],retE⟩ (by simp) (by simp[binI]) ok _ _ (sk_bel HU.o hb0)).mono ?_
 rintro e w1 ⟨v',rfl,hb1,hc1⟩
 have HB1:=Hm (bT hb0 hb1)
 have HK1:=Hm (show TaskZ w1 p (.slice (some ⟨b,off,none⟩) 1 c) (.slice none 0 0) 0 0 from bHeap (bT hb0 hb1) HK.o)
 have HC1:Hd (Kd.SK kIns w1 (λb=>w.heap.size≤b) [binI] v'):=⟨hc1.stay (Stays.weaken λb hb=>Nat.le_trans hb0.size hb)⟩
 obtain⟨bv,ov,cv,Av,cav,rfl,-⟩:=one_row hc1
 clear hb0 hb1 hc1 p0 p1 p2 p3 p4 p6 f3 f4 f6 y0 y1 y2 y3 y4 HU
 obtain⟨p0,p1,p2,p3,p4,p6,f3,f4,f6,pz1⟩:=HK1.o.cells
 have hz1:=HB1.o.size
 simp only[retE]
 go_wp2_with fail
 refine⟨?_,?_⟩
 ·simp only[Again,slotOf]
  go_simp
 refine line_hv rfl ?_
 go_wp2_with fail
 refine⟨?_,?_⟩
 ·simp only[Again,slotOf]
  go_simp
 refine line_hv rfl ?_
 refine app0 iBlock Tryz.underlying57 rfl (.tmp 22) (.tmp 25) rfl rfl (own_none _ w.heap.size 97 5 0 rfl) (show w.heap.size≤(w1.alloc _).heap.size by simp;omega) (A:=some ⟨w1.heap.size,0,none⟩) (m:=1) (c:=1) rfl (row_new w1 [.slice (some ⟨bv,ov,none⟩) 1 cv,.int .u8 3,.int .i64 1,.int .i64 0,.int .i64 0] 97 (0,0)) rfl (by omega) ?_
 intro v2 w2 hb2 ho2
 obtain⟨g,cg,rfl,hg⟩:=own_form ho2 (by omega)
 have hb2:=bUA hb2
 have HB2:=Hm (bT HB1.o hb2)
 have HK2:=Hm (show TaskZ w2 p (.slice (some ⟨b,off,none⟩) 1 c) (.slice none 0 0) 0 0 from bHeap hb2 HK1.o)
 have HC2:=Hm (sk_bel HC1.o hb2)
 have HO2:=Hm ho2
 clear hb2 ho2 HK1 HC1 HB1 p0 p1 p2 p3 p4 p6 f3 f4 f6 pz1 hz1
 obtain⟨p0,p1,p2,p3,p4,p6,f3,f4,f6,pz2⟩:=HK2.o.cells
 go_wp2_with fail
 refine⟨?_,?_⟩
 ·simp only[Again,slotOf]
  go_simp
 iterate 2 (refine line_rd rfl (λK hK=>?_);go_simp;refine hK _ ?_;clear hK K)
 refine line_hv rfl ?_
 go_wp2_with fail
 refine⟨?_,?_⟩
 ·exact trivial
 unfold Line
 have hO:Only w2 (w2.setCell ⟨p,3,none⟩ (.slice (some ⟨g,0,none⟩) 1 cg)) (λb=>b=p):=oC (F:=λb=>b=p) (Only.refl _ _) rfl _ _
 have HK3:Hd (TaskZ (w2.setCell ⟨p,3,none⟩ (.slice (some ⟨g,0,none⟩) 1 cg)) p (.slice (some ⟨b,off,none⟩) 1 c) (.slice (some ⟨g,0,none⟩) 1 cg) 0 0):=⟨set_at (cs:=[.int .i64 1,.int .i64 2,.slice (some ⟨b,off,none⟩) 1 c,.slice none 0 0,.int .i64 0,.int .i64 3,.int .i64 0,.slice none 0 0,.slice none 0 0]) HK2.o 3 _⟩
 have HB3:=Hm (Only.belLeft HB2.o hO)
 have HO3:=Hm (own_only HO2.o hO (λb hb e=>by cases hb;have:g=p:=e;omega))
 have HC3:=Hm (HC2.o.stay (hO.stays (λb hb e=>by have:b=p:=e;omega)))
 clear hO HK2 HB2 HO2 HC2 p0 p1 p2 p3 p4 p6 f3 f4 f6 pz2
 generalize w2.setCell ⟨p,3,none⟩ (.slice (some ⟨g,0,none⟩) 1 cg)=w3 at *
 go_wp2_with fail
 rw[rounds_succ]
 obtain⟨p0,p1,p2,p3,p4,p6,f3,f4,f6,pz3⟩:=HK3.o.cells
 go_wp2_with fail
 refine rgn [.rd 0,.rd 1,.rd 2,.rd 3,.rd 4,.rd 5,.rd 6,.rd 7,.rd 8,.rd 9,.rd 10,.rd 11,.rd 12,.rd 13,.hv 14 [1],.rd 15,.rd 16,.hv 17 []] (n:=122) rfl ?_
 iterate 14 (refine line_rd rfl (λK hK=>?_);go_simp;refine hK _ ?_;clear hK K)
 refine line_hv rfl ?_
 go_wp2_with fail
 refine⟨?_,?_⟩
 ·simp only[Again,slotOf]
  go_simp
 iterate 2 (refine line_rd rfl (λK hK=>?_);go_simp;refine hK _ ?_;clear hK K)
 refine line_hv rfl ?_
 go_wp2_with fail
 refine⟨?_,?_⟩
 ·exact trivial
 unfold Line
 obtain⟨w4,hw4⟩:∃ w4,w4=((w3.setCell ⟨p,4,none⟩ (.int .i64 2)).setCell ⟨p,6,none⟩ (.int .i64 1)).drew:=⟨_,rfl⟩
 rw[←hw4]
 have hO:Only w3 w4 (λb=>b=p):=by rw[hw4];exact oD (oC (oC (F:=λb=>b=p) (Only.refl _ _) rfl _ _) rfl _ _)
 have HK4:Hd (TaskZ w4 p (.slice (some ⟨b,off,none⟩) 1 c) (.slice (some ⟨g,0,none⟩) 1 cg) 2 1):=⟨by
  rw[hw4]
  exact set_at (cs:=[.int .i64 1,.int .i64 2,.slice (some ⟨b,off,none⟩) 1 c,.slice (some ⟨g,0,none⟩) 1 cg,.int .i64 2,.int .i64 3,.int .i64 0,.slice none 0 0,.slice none 0 0]) (set_at (cs:=[.int .i64 1,.int .i64 2,.slice (some ⟨b,off,none⟩) 1 c,.slice (some ⟨g,0,none⟩) 1 cg,.int .i64 0,.int .i64 3,.int .i64 0,.slice none 0 0,.slice none 0 0]) HK3.o 4 _) 6 _⟩
 have HB4:=Hm (HB3.o.trans hO (λb _ e=>e))
 have HO4:=Hm (own_only HO3.o hO (λb hb e=>by cases hb;have:g=p:=e;omega))
 have HC4:=Hm (HC3.o.stay (hO.stays (λb hb e=>by have:b=p:=e;omega)))
 clear hO hw4 HK3 HB3 HO3 HC3 p0 p1 p2 p3 p4 p6 f3 f4 f6 pz3
 obtain⟨p0,p1,p2,p3,p4,p6,f3,f4,f6,pz4⟩:=HK4.o.cells
 go_wp2_with fail
 refine(ahead_one [binI] ok _ w4 (HV.o.stay (HB4.o.stays (λb hb e=>HO.o b hb e)))).mono ?_
 rintro e w5 ⟨hb5,ga,rfl,hga⟩
 have HB5:=Hm (oB HB4.o hb5)
 have HK5:=Hm (show TaskZ w5 p (.slice (some ⟨b,off,none⟩) 1 c) (.slice (some ⟨g,0,none⟩) 1 cg) 2 1 from bHeap hb5 HK4.o)
 have HO5:=Hm (own_below HO4.o hb5)
 have HC5:=Hm (sk_bel HC4.o hb5)
 have a0:=hcell hga 0
 have az:=hlt hga
 simp at a0
 clear hb5 hga HK4 HB4 HO4 HC4 p0 p1 p2 p3 p4 p6 f3 f4 f6 pz4
 obtain⟨p0,p1,p2,p3,p4,p6,f3,f4,f6,pz5⟩:=HK5.o.cells
 go_wp2_with fail
 refine wp_loop_rounds 2 ?_
 rw[rounds_succ]
 go_wp2_with (
  at_builtin
  refine app0 iIns Tryz.underlying92 rfl (.tmp 100) (.tmp 104) rfl rfl (own_none _ w5.heap.size 91 7 0 rfl) (show w5.heap.size≤(w5.alloc _).heap.size by simp) (A:=some ⟨w5.heap.size,0,none⟩) (m:=1) (c:=1) rfl (row_new w5 [.int .u8 8,.int .u8 0,.int .i64 0,.int .i64 0,.int .i64 0,.int .i64 0,.slice none 0 0] 91 (0,0)) rfl (by omega) ?_
  intro v6 w6 hb6 ho6
  obtain⟨g6,k6,e6,hg6⟩:=own_form ho6 (by omega)
  subst e6
  have HB6:=Hm (oB HB5.o (bUA hb6))
  have HK6:=Hm (show TaskZ w6 p (.slice (some ⟨b,off,none⟩) 1 c) (.slice (some ⟨g,0,none⟩) 1 cg) 2 1 from bHeap (bUA hb6) HK5.o)
  have HO6:=Hm (own_below HO5.o (bUA hb6))
  have HC6:=Hm (sk_bel HC5.o (bUA hb6))
  have HF6:=Hm ho6
  have hz56:=(bUA hb6).size
  have hg5:g < w5.heap.size:=(HO5.o.lt g rfl).2
  have p0':=bCell (bUA hb6) p0
  clear hb6 ho6 p0 p1 p2 p3 p4 p6 f3 f4 f6)
 clear p0' HK5 HB5 HO5 HC5 a0 az pz5
 obtain⟨p0,p1,p2,p3,p4,p6,f3,f4,f6,pz6⟩:=HK6.o.cells
 rw[rounds_succ]
 go_wp2_with fail
 have r0:w6.cell? ⟨g,0,none⟩=some (.slice (some ⟨bv,ov,none⟩) 1 cv):=by have:=HO6.o.cellAt 0 (by simp);simpa using this
 have rz:g < w6.heap.size:=(HO6.o.lt g rfl).2
 have hgp:w.heap.size≤g:=hg
 refine rgn [.rd 0,.rd 1,.rd 2,.rd 3,.rd 4,.rd 5,.rd 6,.rd 7,.rd 8,.rd 9,.rd 10,.rd 11,.hv 12 [0,1,2,3],.rd 13,.rd 14,.hv 15 []] (n:=122) rfl ?_
 iterate 12 (refine line_rd rfl (λK hK=>?_);go_simp;refine hK _ ?_;clear hK K)
 refine line_hv rfl ?_
 obtain⟨bv',ov',cv',Av',cav',ev,hrow,-,hcm⟩:=one_row HC6.o
 cases ev
 have HR:=Hm hrow
 clear hrow
 refine app iIns Tryz.underlying92 rfl (.tmp 111) (.tmp 118) rfl (v:=.slice (some ⟨g6,0,none⟩) 1 k6) rfl (own_below HF6.o (bD (bR _))) (show w5.heap.size≤w6.drew.heap.size by simp;omega) (A:=some ⟨bv,ov,none⟩) (m:=1) (c:=cv) rfl (Row.below HR.o (bD (bR _))) rfl (by simp[Value.oneCell']) (by omega) ?_
 intro v7 w7 ho7 hg7
 obtain⟨g7,k7,rfl,hg7'⟩:=own_form ho7 (by omega)
 have hO7:Only w6 w7 (λb=>b=g6):=Only.trans (F:=λb=>b=g6) (Only.bel (bD (bR w6))) (Only.grown (F:=λb=>b=g6) hg7 (λg e=>by cases e;rfl)) (λb _ e=>e)
 have hg6':w5.heap.size≤g6:=hg6
 have HB7:=Hm (HB6.o.trans hO7 (λb hb e=>by have:b=g6:=e;have:=HB6.o.size;omega))
 have HK7:=Hm (show TaskZ w7 p (.slice (some ⟨b,off,none⟩) 1 c) (.slice (some ⟨g,0,none⟩) 1 cg) 2 1 from hO7.heap HK6.o (λe=>by have:p=g6:=e;omega))
 have HO7:=Hm (own_only HO6.o hO7 (λb hb e=>by cases hb;have:g=g6:=e;omega))
 have HF7:=Hm ho7
 have hz67:=hO7.size
 clear ho7 hg7 hO7 HK6 HB6 HO6 HC6 HF6 p0 p1 p2 p3 p4 p6 f3 f4 f6 r0 rz HR
 obtain⟨p0,p1,p2,p3,p4,p6,f3,f4,f6,pz7⟩:=HK7.o.cells
 have r0:w7.cell? ⟨g,0,none⟩=some (.slice (some ⟨bv,ov,none⟩) 1 cv):=by have:=HO7.o.cellAt 0 (by simp);simpa using this
 have rz:g < w7.heap.size:=(HO7.o.lt g rfl).2
 have rf:w7.frozen? ⟨g,0,none⟩=false:=by
  rcases HO7.o.2 with ⟨h,-⟩|⟨g',c',cur,e',-,hh,-⟩
  ·cases h
  ·cases e'
   exact hfree hh 0
 go_wp2_with fail
 refine⟨?_,?_⟩
 ·simp only[Again,slotOf]
  go_simp
 iterate 2 (refine line_rd rfl (λK hK=>?_);go_simp;refine hK _ ?_;clear hK K)
 refine line_hv rfl ?_
 go_wp2_with fail
 refine⟨?_,?_⟩
 ·exact trivial
 unfold Line
 go_wp2_with fail
 go_end0
 have hpg:p≠g:=by omega
 have hO8:Only w7 (w7.setCell ⟨g,0,none⟩ (.slice (some ⟨g7,0,none⟩) 2 k7)) (λb=>b=g):=oC (F:=λb=>b=g) (Only.refl _ _) rfl _ _
 have hF8:=own_only HF7.o hO8 (λb hb e=>by cases hb;have h1:g7=g:=e;have h2:w5.heap.size≤g7:=hg7';omega)
 have hB8:=own_setk HO7.o (by omega) 0 (.slice (some ⟨g7,0,none⟩) 2 k7)
 have hI:Kd.SK kIns (w7.setCell ⟨g,0,none⟩ (.slice (some ⟨g7,0,none⟩) 2 k7)) (λb=>w.heap.size≤b) [filI,binI] (.slice (some ⟨g7,0,none⟩) 2 k7) :=
  (Kd.SK.own (k:=kIns) hF8 ((Kd.All.single (kIns_mk fits_fil (Kd.SK.nil 0 (Nat.zero_le _) none))).append (Kd.All.single (kIns_mk fits_bin (Kd.SK.nil cav' hcm Av')))) (λb hb=>by omega)).1
 refine⟨rfl,oN HB7.o hgp _ _,_,⟨hset HK7.o hpg⟩,(Kd.SK.own (k:=kBlock) hB8 (Kd.All.single (kBlock_mk (b:=⟨[filI,binI],retE⟩) fits_ret hI)) (λb hb=>hb)).1⟩
def bin0:Ins:=⟨3,1,0,0,0,0,[]⟩
def code0:Code:=⟨1,3,1,[⟨[filI,bin0],⟨3,0,0,0⟩⟩]⟩
theorem ins_cap {w:World} {ok:Nat→Prop} {l:List Ins} {v:Value} (h:Kd.SK kIns w ok l v) (i:Nat) (hi:i < l.length) (x:Ins) (hx:l[i]=x) (ha:x.args=[]) {b off c n:Nat} {A:Option Addr} {ca:Nat} (e:v=.slice (some ⟨b,off,none⟩) n c) (h6:w.cell? ⟨b,off+i*7+6,none⟩=some (.slice A 0 ca)):ca≤maxLen:=by
 obtain⟨b',off',c',cs,e',-,-,-,hk,hc⟩:=h.at_ i hi
 rw[e] at e'
 cases e'
 obtain⟨-,u,rfl,hu⟩:=kIns_open hk
 obtain⟨A',ca',e',-,hm,-⟩:=ski hu
 have h7:w.cell? ⟨b,off+i*7+6,none⟩=some u:=hc 6 (by decide)
 rw[h6] at h7
 injection h7 with h7
 rw[←h7] at e'
 simp only[Value.slice.injEq] at e'
 rw[e'.2.2]
 exact hm
theorem fits_bin0:bin0.Fits:=⟨wf8.2 (by simp[bin0]),wf8.2 (by simp[bin0]),wf64.2 (by simp[bin0]),wf64.2 (by simp[bin0]),wf64.2 (by simp[bin0]),wf64.2 (by simp[bin0])⟩
theorem fits_ret0:(⟨3,0,0,0⟩:End).Fits:=⟨wf8.2 (by simp),wf64.2 (by simp),wf64.2 (by simp),wf64.2 (by simp)⟩
theorem run_blk0 (v a b c d:Value) (w:World):(Instr.field 97 (.agg #[v,a,b,c,d]) 0).run Tryz.prog w=.ok v w:=by kernel_rfl
structure Cd (w X:World) (g qc qb qx N:Nat) (vI:Value) (xs:List Value) (vC:Value):Prop where
 bel:Bel w X
 res:X.heap[w.heap.size]?=some (.cells ([.int .i64 0,.int .i64 0,.int .i64 0,.slice none 0 0]:List Value).toArray 59 (0,0))
 cc:X.heap[qc]?=some (.cells ([.int .i64 1,.int .i64 3,.int .i64 1,.slice none 0 0]:List Value).toArray 59 (0,0))
 bb:X.heap[qb]?=some (.cells #[vI,.int .u8 3,.int .i64 1,.int .i64 0,.int .i64 0] 97 (0,0))
 xx:X.heap[qx]?=some (.cells xs.toArray 97 (0,0))
 got:X.heap[g]?=some (.cells #[.int .i64 0,.int .i64 0] 3 (0,0))
 copy:Kd.SK kIns X (λb=>qx < b∧b < N) [filI,binI] vC
 gw:g < w.heap.size
 wc:w.heap.size < qc
 cb:qc < qb
 bx:qb < qx
 xN:qx < N
 nX:N≤X.heap.size
section
variable {w X X':World} {g qc qb qx N:Nat} {vI vC:Value} {xs:List Value}
theorem Cd.only (h:Cd w X g qc qb qx N vI xs vC) {F:Nat→Prop} (hs:Only X X' F) (hF:∀ b,F b→N≤b):Cd w X' g qc qb qx N vI xs vC :=
 have h1:=h.gw;have h2:=h.wc;have h3:=h.cb;have h4:=h.bx;have h5:=h.xN;have h6:=h.nX
 { h with
  bel:=bO h.bel hs (λb e=>by have:=hF b e;omega)
  res:=hs.heap h.res (λe=>by have:=hF _ e;omega)
  cc:=hs.heap h.cc (λe=>by have:=hF _ e;omega)
  bb:=hs.heap h.bb (λe=>by have:=hF _ e;omega)
  xx:=hs.heap h.xx (λe=>by have:=hF _ e;omega)
  got:=hs.heap h.got (λe=>by have:=hF _ e;omega)
  copy:=h.copy.stay (hs.stays (λb hb e=>by have:=hF b e;omega))
  nX:=Nat.le_trans h.nX hs.size }
theorem Cd.belN (h:Cd w X g qc qb qx N vI xs vC) (hb:Bel X X'):Cd w X' g qc qb qx N vI xs vC:=h.only (F:=λ_=>False) (Only.bel hb) (λ_ e=>e.elim)
theorem Cd.setX (h:Cd w X g qc qb qx N vI xs vC) (k:Nat) (v:Value):Cd w (X.setCell ⟨qx,k,none⟩ v) g qc qb qx N vI (xs.set k v) vC :=
 have h1:=h.gw;have h2:=h.wc;have h3:=h.cb;have h4:=h.bx;have h5:=h.xN;have h6:=h.nX
 { h with
  bel:=bC h.bel (by omega) _ _
  res:=hset h.res (by omega)
  cc:=hset h.cc (by omega)
  bb:=hset h.bb (by omega)
  xx:=set_at h.xx k v
  got:=hset h.got (by omega)
  copy:=h.copy.stay ((oC (F:=λb=>b=qx) (Only.refl X _) rfl k v).stays (λb hb e=>by have:b=qx:=e;omega))
  nX:=by simpa using h.nX }
end
theorem code_one (ok:Nat→Prop) (p g:Nat) (fB lV:Value) (w:World) (h:TaskAt w p fB lV) (hv:Kd.SK kBlock w ok [⟨[filI,binI],retE⟩] lV) (hg:w.heap[g]?=some (.cells #[.int .i64 0,.int .i64 0] 3 (0,0))) :
  Calls Tryz.prog 133 #[.pointer (some ⟨p,0,none⟩),.slice (some ⟨g,0,none⟩) 2 2] w λe w'=>Bel w w'∧∃ V,e=.returned (.agg #[.int .i64 1,.int .i64 3,.int .i64 1,V])∧Kd.SK kBlock w' (λb=>w.heap.size≤b) code0.blocks V:=by
 have HK:=Hm h
 have HG:=Hm hg
 obtain⟨b,off,c,u,rfl,-,hb,hu,y0,y1,y2,y3,y4⟩:=block_cells hv 0 (by simp) ⟨[filI,binI],retE⟩ rfl
 obtain⟨bI,oI,cI,A0,c0,rfl,-⟩:=ins_cells hu 0 (by simp) filI rfl rfl
 have HU:=Hm hu
 simp only[retE,Nat.zero_mul,Nat.add_zero] at y0 y1 y2 y3 y4
 obtain⟨p0,p1,p2,p3,p4,p5,p6,p7,p8,pz⟩:=h.cells
 clear h hv hg hu
 go_enter Tryz.func133,Tryz.ntmps133
 go_wp2_with fail
 refine rgn [.rd 0,.rd 1,.rd 2,.rd 3,.rd 4,.rd 5,.rd 6,.rd 7,.rd 8,.rd 9,.rd 10,.rd 11,.rd 12,.rd 13,.hv 14 [0,1,2,3,4,5,6,7,8,9,10,11,12,13],.hv 15 []] (n:=145) rfl ?_
 iterate 14 (refine line_rd rfl (λK hK=>?_);go_simp;refine hK _ ?_;clear hK K)
 refine line_hv rfl ?_
 go_wp2_with fail
 refine⟨?_,?_⟩
 ·simp only[Again,slotOf]
  go_simp
 refine line_hv rfl ?_
 go_wp2_with fail
 refine⟨?_,?_⟩
 ·exact trivial
 unfold Line
 go_wp2_with fail
 refine wp_loop_rounds 2 ?_
 rw[rounds_succ]
 go_wp2_with fail
 have hlt0:g < w.heap.size:=hlt HG.o
 obtain⟨X0,hX0⟩:∃ X0,X0=((((w.alloc (.cells #[.int .i64 0,.int .i64 0,.int .i64 0,.slice none 0 0] 59)).alloc (.cells #[.int .i64 1,.int .i64 3,.int .i64 1,.slice none 0 0] 59)).alloc (.cells #[.slice (some ⟨bI,oI,none⟩) 2 cI,.int .u8 3,.int .i64 1,.int .i64 0,.int .i64 0] 97)).alloc (.cells #[.slice none 0 0,.int .u8 0,.int .i64 0,.int .i64 0,.int .i64 0] 97)).drew:=⟨_,rfl⟩
 rw[←hX0]
 have hb0:Bel w X0:=by rw[hX0];exact bD (bA (bA (bA (bA (bR _) _) _) _) _)
 have h0:X0.heap[w.heap.size]?=some (.cells #[.int .i64 0,.int .i64 0,.int .i64 0,.slice none 0 0] 59 (0,0)):=by rw[hX0];exact bHeap (bA (bA (bA (bR _) _) _) _) (hnew rfl)
 have h1:X0.heap[w.heap.size+1]?=some (.cells #[.int .i64 1,.int .i64 3,.int .i64 1,.slice none 0 0] 59 (0,0)):=by rw[hX0];exact bHeap (bA (bA (bR _) _) _) (hnew (by simp))
 have h2:X0.heap[w.heap.size+1+1]?=some (.cells #[.slice (some ⟨bI,oI,none⟩) 2 cI,.int .u8 3,.int .i64 1,.int .i64 0,.int .i64 0] 97 (0,0)):=by rw[hX0];exact bHeap (bA (bR _) _) (hnew (by simp))
 have h3:X0.heap[w.heap.size+1+1+1]?=some (.cells #[.slice none 0 0,.int .u8 0,.int .i64 0,.int .i64 0,.int .i64 0] 97 (0,0)):=by rw[hX0];exact hnew (by simp)
 refine(copied_blk ⟨[filI,binI],retE⟩ (by simp) (by simp[binI,filI]) ok _ X0 (sk_bel HU.o hb0)).mono ?_
 rintro e w1 ⟨v',rfl,hb1,hc1⟩
 have hsz:w.heap.size+1+1+1 < X0.heap.size:=hlt h3
 have HD1:Hd (Cd w w1 g (w.heap.size+1) (w.heap.size+1+1) (w.heap.size+1+1+1) w1.heap.size (.slice (some ⟨bI,oI,none⟩) 2 cI) [.slice none 0 0,.int .u8 0,.int .i64 0,.int .i64 0,.int .i64 0] v'):=⟨⟨bT hb0 hb1,bHeap hb1 h0,bHeap hb1 h1,bHeap hb1 h2,bHeap hb1 h3,bHeap (bT hb0 hb1) HG.o,hc1.stay (λb ho hb=>⟨⟨Nat.lt_of_lt_of_le hsz ho,hb⟩,rfl⟩),hlt0,by omega,by omega,by omega,Nat.lt_of_lt_of_le hsz hb1.size,Nat.le_refl _⟩⟩
 obtain⟨bv,ov,cv,Av,cav,rfl,-⟩:=ins_cells hc1 0 (by simp) filI rfl rfl
 simp only[retE]
 clear hX0 hb0 h0 h1 h2 h3 hb1 hc1 hsz y0 y1 y2 y3 y4 p0 p1 p2 p3 p4 p5 p6 p7 p8 pz HU HG HK
 generalize hqx:w.heap.size+1+1+1=qx at *
 generalize hqb:w.heap.size+1+1=qb at *
 generalize hqc:w.heap.size+1=qc at *
 have HN:=Hm (And.intro hqx (And.intro hqb hqc))
 have hord:w.heap.size < qc∧qc < qb∧qb < qx:=by omega
 clear hqx hqb hqc
 obtain⟨ho1,ho2,ho3⟩:=hord
 have hfl:=run_blk0
 go_wp2_with fail
 clear hfl
 refine wp_loop_rounds 3 ?_
 generalize hN:w1.heap.size=N at HD1
 clear hN
 rw[rounds_succ]
 obtain⟨bJ,oJ,cJ,A1,c1,e1,-,-,y0,y1,y2,y3,y4,y5,y6⟩:=ins_cells HD1.o.copy 0 (by simp) filI rfl rfl
 cases e1
 have HM1:=Hm (ins_cap HD1.o.copy 0 (by simp) filI rfl rfl rfl y6)
 simp only[filI,Nat.zero_mul,Nat.one_mul,Nat.add_zero] at y0 y1 y2 y3 y4 y5 y6
 have hz2:=HD1.o.nX
 go_wp2_with fail
 refine(gives_any 8 0 0 0 0 0 A1 0 c1 _).mono ?_
 rintro e w2 ⟨rfl,hb⟩
 obtain⟨t,ht⟩:∃ t,t=w1.heap.size:=⟨_,rfl⟩
 have HT2:Hd (w2.heap[t]?=some (.cells ([.int .u8 8,.int .u8 0,.int .i64 0,.int .i64 0,.int .i64 0,.int .i64 0,.slice A1 0 c1]:List Value).toArray 91 (0,0))):=⟨bHeap hb (hnew ht)⟩
 have HD2:=Hm (HD1.o.belN (bUA hb))
 have htN:N≤t:=by omega
 have hrow:=bUA hb
 rw[←ht]
 clear ht hb hrow HD1 y0 y1 y2 y3 y4 y5 y6 hz2
 have gv:givesD 8 0=0:=rfl
 have gb:givesB 8=true:=rfl
 rw[gv,gb]
 clear gv gb
 have t0:=hcell HT2.o 0
 have t1:=hcell HT2.o 1
 have t2:=hcell HT2.o 2
 have t3:=hcell HT2.o 3
 have t4:=hcell HT2.o 4
 have t5:=hcell HT2.o 5
 have t6:=hcell HT2.o 6
 obtain⟨-,-,tf2,tf3,tf4⟩:=fF5 HT2.o
 have tz:=hlt HT2.o
 have g0:=hcell HD2.o.got 0
 have g1:=hcell HD2.o.got 1
 have gz:=hlt HD2.o.got
 have hgt:¬g=t:=by have:=HD2.o.gw;have:=HD2.o.wc;have:=HD2.o.cb;have:=HD2.o.bx;have:=HD2.o.xN;omega
 simp at t0 t1 t2 t3 t4 t5 t6 g0 g1
 go_wp2_with fail
 have hO:Only w2 (w2.setCell ⟨t,2,none⟩ (.int .i64 0)) (λb=>b=t):=oC (F:=λb=>b=t) (Only.refl _ _) rfl _ _
 have HT3:Hd ((w2.setCell ⟨t,2,none⟩ (.int .i64 0)).heap[t]?=some (.cells ([.int .u8 8,.int .u8 0,.int .i64 0,.int .i64 0,.int .i64 0,.int .i64 0,.slice A1 0 c1]:List Value).toArray 91 (0,0))):=⟨set_at (cs:=[.int .u8 8,.int .u8 0,.int .i64 0,.int .i64 0,.int .i64 0,.int .i64 0,.slice A1 0 c1]) HT2.o 2 _⟩
 have HD3:=Hm (HD2.o.only hO (λb e=>by have:b=t:=e;omega))
 clear hO HT2 HD2 t0 t1 t2 t3 t4 t5 t6 tf2 tf3 tf4 tz g0 g1 gz
 generalize w2.setCell ⟨t,2,none⟩ (.int .i64 0)=w3 at *
 have t0:=hcell HT3.o 0
 have t1:=hcell HT3.o 1
 have t2:=hcell HT3.o 2
 have t3:=hcell HT3.o 3
 have t4:=hcell HT3.o 4
 have t5:=hcell HT3.o 5
 have t6:=hcell HT3.o 6
 have tz:=hlt HT3.o
 have x0:w3.cell? ⟨qx,0,none⟩=some (.slice none 0 0):=hcell HD3.o.xx 0
 have xz:=hlt HD3.o.xx
 have hNb:=HD3.o.nX
 simp at t0 t1 t2 t3 t4 t5 t6
 refine wp_loop_rounds 1 ?_
 rw[rounds_succ]
 go_wp2_with (
  at_builtin
  refine app0 iIns Tryz.underlying92 rfl (.tmp 115) (.tmp 117) rfl rfl (own_none _ N 91 7 0 rfl) (show N≤(w3.alloc _).heap.size by simp;omega) (A:=some ⟨w3.heap.size,0,none⟩) (m:=1) (c:=1) rfl (row_new w3 [.int .u8 8,.int .u8 0,.int .i64 0,.int .i64 0,.int .i64 0,.int .i64 0,.slice A1 0 c1] 91 (0,0)) rfl (by omega) ?_
  intro v8 w4 hb ho
  obtain⟨g8,k8,e8,hg8⟩:=own_form ho (by omega)
  subst e8
  have HR4:=Hm ho
  have HD4:=Hm (HD3.o.belN (bUA hb))
  have x0':=bCell (bUA hb) x0
  have xf':w4.frozen? ⟨qx,0,none⟩=false:=hfree HD4.o.xx 0
  have xz':=hlt HD4.o.xx
  clear hb ho x0 xz t0 t1 t2 t3 t4 t5 t6 tz)
 have hO:Only w4 (w4.setCell ⟨qx,0,none⟩ (.slice (some ⟨g8,0,none⟩) 1 k8)) (λb=>b=qx):=oC (F:=λb=>b=qx) (Only.refl _ _) rfl _ _
 have HD5:=Hm (HD4.o.setX 0 (.slice (some ⟨g8,0,none⟩) 1 k8))
 simp only[List.set_cons_zero] at HD5
 have HR:=Hm (own_only HR4.o hO (λb hb e=>by cases hb;have:g8=qx:=e;have:=HD4.o.xN;have:N≤g8:=hg8;omega))
 clear hO HD3 HD4 HT3 HR4 x0' xf' xz'
 generalize w4.setCell ⟨qx,0,none⟩ (.slice (some ⟨g8,0,none⟩) 1 k8)=w5 at *
 rw[rounds_succ]
 obtain⟨bJ,oJ,cJ,A2,c2,e2,-,-,y0,y1,y2,y3,y4,y5,y6⟩:=ins_cells HD5.o.copy 1 (by simp) binI rfl rfl
 cases e2
 have HM2:=Hm (ins_cap HD5.o.copy 1 (by simp) binI rfl rfl rfl y6)
 simp only[binI,Nat.zero_mul,Nat.one_mul,Nat.add_zero] at y0 y1 y2 y3 y4 y5 y6
 have hz6:=HD5.o.nX
 go_wp2_with fail
 refine(gives_any 3 1 1 0 0 0 A2 0 c2 _).mono ?_
 rintro e w6 ⟨rfl,hb⟩
 obtain⟨t,ht⟩:∃ t,t=w5.heap.size:=⟨_,rfl⟩
 have HT6:Hd (w6.heap[t]?=some (.cells ([.int .u8 3,.int .u8 1,.int .i64 1,.int .i64 0,.int .i64 0,.int .i64 0,.slice A2 0 c2]:List Value).toArray 91 (0,0))):=⟨bHeap hb (hnew ht)⟩
 have HD6:=Hm (HD5.o.belN (bUA hb))
 have htN:N≤t:=by omega
 have hrow:=bUA hb
 rw[←ht]
 have HR6:=Hm (own_below HR.o hrow)
 have htg8:g8≠t:=by have:=(HR.o.lt g8 rfl).2;omega
 clear HR
 clear ht hb hrow HD5 y0 y1 y2 y3 y4 y5 y6 hz6
 have gv:givesD 3 1=1:=rfl
 have gb:givesB 3=true:=rfl
 rw[gv,gb]
 clear gv gb
 have t0:=hcell HT6.o 0
 have t1:=hcell HT6.o 1
 have t2:=hcell HT6.o 2
 have t3:=hcell HT6.o 3
 have t4:=hcell HT6.o 4
 have t5:=hcell HT6.o 5
 have t6:=hcell HT6.o 6
 obtain⟨-,-,tf2,tf3,tf4⟩:=fF5 HT6.o
 have tz:=hlt HT6.o
 have g0:=hcell HD6.o.got 0
 have g1:=hcell HD6.o.got 1
 have gz:=hlt HD6.o.got
 have hgt:¬g=t:=by have:=HD6.o.gw;have:=HD6.o.wc;have:=HD6.o.cb;have:=HD6.o.bx;have:=HD6.o.xN;omega
 simp at t0 t1 t2 t3 t4 t5 t6 g0 g1
 go_wp2_with fail
 have hOw7:Only w6 (w6.setCell ⟨t,2,none⟩ (.int .i64 0)) (λb=>b=t):=oC (F:=λb=>b=t) (Only.refl _ _) rfl _ _
 have HT7:Hd ((w6.setCell ⟨t,2,none⟩ (.int .i64 0)).heap[t]?=some (.cells ([.int .u8 3,.int .u8 1,.int .i64 0,.int .i64 0,.int .i64 0,.int .i64 0,.slice A2 0 c2]:List Value).toArray 91 (0,0))):=⟨set_at (cs:=[.int .u8 3,.int .u8 1,.int .i64 1,.int .i64 0,.int .i64 0,.int .i64 0,.slice A2 0 c2]) HT6.o 2 _⟩
 have HD7:=Hm (HD6.o.only hOw7 (λb e=>by have:b=t:=e;omega))
 have HR7:=Hm (own_only HR6.o hOw7 (λb hb e=>by cases hb;exact htg8 e))
 clear hOw7 HT6 HD6 HR6 t0 t1 t2 t3 t4 t5 t6 tf2 tf3 tf4 tz g0 g1 gz
 generalize w6.setCell ⟨t,2,none⟩ (.int .i64 0)=w7 at *
 have t0:=hcell HT7.o 0
 have t1:=hcell HT7.o 1
 have t2:=hcell HT7.o 2
 have t3:=hcell HT7.o 3
 have t4:=hcell HT7.o 4
 have t5:=hcell HT7.o 5
 have t6:=hcell HT7.o 6
 obtain⟨-,-,tf2,tf3,tf4⟩:=fF5 HT7.o
 have tz:=hlt HT7.o
 have g0:=hcell HD7.o.got 0
 have g1:=hcell HD7.o.got 1
 have gz:=hlt HD7.o.got
 simp at t0 t1 t2 t3 t4 t5 t6 g0 g1
 go_wp2_with fail
 refine rgn [.rd 0,.rd 1,.rd 2,.rd 3,.rd 4,.rd 5,.rd 6,.rd 7,.rd 8,.rd 9,.rd 10,.hv 11 [5,8,9],.rd 12,.hv 13 []] (n:=145) rfl ?_
 iterate 11 (refine line_rd rfl (λK hK=>?_);go_simp;refine hK _ ?_;clear hK K)
 refine line_hv rfl ?_
 go_wp2_with fail
 refine⟨?_,?_⟩
 ·simp only[Again,slotOf]
  go_simp
 iterate 1 (refine line_rd rfl (λK hK=>?_);go_simp;refine hK _ ?_;clear hK K)
 refine line_hv rfl ?_
 go_wp2_with fail
 refine⟨?_,?_⟩
 ·exact trivial
 unfold Line
 obtain⟨w8,hw8⟩:∃ w8,w8=((w7.setCell ⟨t,3,none⟩ (.int .i64 0)).setCell ⟨t,4,none⟩ (.int .i64 0)).drew:=⟨_,rfl⟩
 rw[←hw8]
 have hO:Only w7 w8 (λb=>b=t):=by rw[hw8];exact oD (oC (oC (F:=λb=>b=t) (Only.refl _ _) rfl _ _) rfl _ _)
 have HT8:Hd (w8.heap[t]?=some (.cells ([.int .u8 3,.int .u8 1,.int .i64 0,.int .i64 0,.int .i64 0,.int .i64 0,.slice A2 0 c2]:List Value).toArray 91 (0,0))):=⟨by
  rw[hw8]
  exact set_at (cs:=[.int .u8 3,.int .u8 1,.int .i64 0,.int .i64 0,.int .i64 0,.int .i64 0,.slice A2 0 c2]) (set_at (cs:=[.int .u8 3,.int .u8 1,.int .i64 0,.int .i64 0,.int .i64 0,.int .i64 0,.slice A2 0 c2]) HT7.o 3 _) 4 _⟩
 have HD8:=Hm (HD7.o.only hO (λb e=>by have:b=t:=e;omega))
 have HR8:=Hm (own_only HR7.o hO (λb hb e=>by cases hb;exact htg8 e))
 clear hO hw8 HT7 HD7 HR7 t0 t1 t2 t3 t4 t5 t6 tf2 tf3 tf4 tz g0 g1 gz
 have t0:=hcell HT8.o 0
 have t1:=hcell HT8.o 1
 have t2:=hcell HT8.o 2
 have t3:=hcell HT8.o 3
 have t4:=hcell HT8.o 4
 have t5:=hcell HT8.o 5
 have t6:=hcell HT8.o 6
 have tz:=hlt HT8.o
 have x0:w8.cell? ⟨qx,0,none⟩=some (.slice (some ⟨g8,0,none⟩) 1 k8):=hcell HD8.o.xx 0
 have xz:=hlt HD8.o.xx
 have hNb8:=HD8.o.nX
 simp at t0 t1 t2 t3 t4 t5 t6
 go_wp2_with fail
 refine wp_loop_rounds 1 ?_
 rw[rounds_succ]
 go_wp2_with (
  at_builtin
  refine appW iIns Tryz.underlying92 rfl (.tmp 115) (.tmp 117) rfl (v:=.slice (some ⟨g8,0,none⟩) 1 k8) rfl (World.ownsRow.alloc HR8.o _) (show N≤(w8.alloc _).heap.size by simp;omega) (q:=w8.heap.size) rfl (row_new w8 [.int .u8 3,.int .u8 1,.int .i64 0,.int .i64 0,.int .i64 0,.int .i64 0,.slice A2 0 c2] 91 (0,0)) rfl (by simp[Value.oneCell']) (by omega) ?_
  intro v9 w9 ho hg hw
  obtain⟨g9,k9,e9,hg9⟩:=own_form ho (by omega)
  subst e9
  have hO:Only w8 w9 (λb=>b=g8):=Only.grown (F:=λb=>b=g8) (grownBy_trans (grownBy_below (row:=some g8) (bA (bR w8) (.cells #[.int .u8 3,.int .u8 1,.int .i64 0,.int .i64 0,.int .i64 0,.int .i64 0,.slice A2 0 c2] 91))) hg) (λg e=>by cases e;rfl)
  have HR9:=Hm ho
  have HD9:=Hm (HD8.o.only hO (λb e=>by have h1:b=g8:=e;have h2:N≤g8:=hg8;omega))
  have x0':w9.cell? ⟨qx,0,none⟩=some (.slice (some ⟨g8,0,none⟩) 1 k8):=hcell HD9.o.xx 0
  have xf':w9.frozen? ⟨qx,0,none⟩=false:=hfree HD9.o.xx 0
  have xz':=hlt HD9.o.xx
  clear hO ho hg hw x0 xz t0 t1 t2 t3 t4 t5 t6 tz)
 have hO:Only w9 (w9.setCell ⟨qx,0,none⟩ (.slice (some ⟨g9,0,none⟩) 2 k9)) (λb=>b=qx):=oC (F:=λb=>b=qx) (Only.refl _ _) rfl _ _
 have HD10:=Hm (HD9.o.setX 0 (.slice (some ⟨g9,0,none⟩) 2 k9))
 simp only[List.set_cons_zero] at HD10
 have HR10:=Hm (own_only HR9.o hO (λb hb e=>by cases hb;have:g9=qx:=e;have:=HD9.o.xN;have:N≤g9:=hg9;omega))
 clear hO HD8 HD9 HT8 HR8 HR9 x0' xf' xz'
 generalize w9.setCell ⟨qx,0,none⟩ (.slice (some ⟨g9,0,none⟩) 2 k9)=w10 at *
 rw[rounds_succ]
 obtain⟨b0,b1,b2,b3,b4,bz⟩:=cs5 HD10.o.bb
 have x1:=hcell HD10.o.xx 1
 have x2:=hcell HD10.o.xx 2
 have x3:=hcell HD10.o.xx 3
 have x4:=hcell HD10.o.xx 4
 obtain⟨-,xf1,xf2,xf3,xf4⟩:=fF5 HD10.o.xx
 have xz:=hlt HD10.o.xx
 simp at x1 x2 x3 x4
 have hbx:¬qb=qx:=by omega
 go_wp2_with fail
 have HD11:=Hm ((((HD10.o.setX 1 (.int .u8 3)).setX 2 (.int .i64 1)).setX 3 (.int .i64 0)).setX 4 (.int .i64 0))
 simp only[List.set_cons_zero,List.set_cons_succ] at HD11
 have hO:Only w10 ((((w10.setCell ⟨qx,1,none⟩ (.int .u8 3)).setCell ⟨qx,2,none⟩ (.int .i64 1)).setCell ⟨qx,3,none⟩ (.int .i64 0)).setCell ⟨qx,4,none⟩ (.int .i64 0)) (λb=>b=qx):=oC (oC (oC (oC (F:=λb=>b=qx) (Only.refl _ _) rfl _ _) rfl _ _) rfl _ _) rfl _ _
 have HR11:=Hm (own_only HR10.o hO (λb hb e=>by cases hb;have:g9=qx:=e;have:=HD10.o.xN;have:N≤g9:=hg9;omega))
 clear hO HD10 HR10 b0 b1 b2 b3 b4 bz x1 x2 x3 x4 xf1 xf2 xf3 xf4 xz
 generalize (((w10.setCell ⟨qx,1,none⟩ (.int .u8 3)).setCell ⟨qx,2,none⟩ (.int .i64 1)).setCell ⟨qx,3,none⟩ (.int .i64 0)).setCell ⟨qx,4,none⟩ (.int .i64 0)=w11 at *
 refine(last_any 3 1 0 0 _).mono ?_
 rintro e w12 ⟨rfl,hb⟩
 have HD12:=Hm (HD11.o.belN hb)
 have HR12:=Hm (own_below HR11.o hb)
 clear hb HD11 HR11
 have lb:lastB 3=true:=rfl
 rw[lb]
 clear lb
 have g0:=hcell HD12.o.got 0
 have g1:=hcell HD12.o.got 1
 have gz:=hlt HD12.o.got
 have x0:=hcell HD12.o.xx 0
 have x1:=hcell HD12.o.xx 1
 have x2:=hcell HD12.o.xx 2
 have x3:=hcell HD12.o.xx 3
 have x4:=hcell HD12.o.xx 4
 have xf2:=hfree HD12.o.xx 2
 have xz:=hlt HD12.o.xx
 have c3:=hcell HD12.o.cc 3
 have cz:=hlt HD12.o.cc
 have hcx:¬qc=qx:=by omega
 have hgx:¬g=qx:=by have:=HD12.o.gw;omega
 simp at g0 g1 x0 x1 x2 x3 x4 c3
 have HD13:=Hm (HD12.o.setX 2 (.int .i64 0))
 simp only[List.set_cons_zero,List.set_cons_succ] at HD13
 have hO:Only w12 (w12.setCell ⟨qx,2,none⟩ (.int .i64 0)) (λb=>b=qx):=oC (F:=λb=>b=qx) (Only.refl _ _) rfl _ _
 have HR13:=Hm (own_only HR12.o hO (λb hb e=>by cases hb;have:g9=qx:=e;have:=HD12.o.xN;have:N≤g9:=hg9;omega))
 have hN12:=HD12.o.nX
 have hxN:=HD12.o.xN
 clear hO
 go_wp2_with (
  at_builtin
  refine app0 iBlock Tryz.underlying57 rfl (.tmp 138) (.tmp 140) rfl rfl (own_none _ N 97 5 0 rfl) (show N≤(World.alloc _ _).heap.size by simp;omega) (A:=some ⟨w12.heap.size,0,none⟩) (m:=1) (c:=1) rfl (by simpa using row_new (w12.setCell ⟨qx,2,none⟩ (.int .i64 0)) [.slice (some ⟨g9,0,none⟩) 2 k9,.int .u8 3,.int .i64 0,.int .i64 0,.int .i64 0] 97 (0,0)) rfl (by omega) ?_
  intro v14 w14 hb ho
  obtain⟨g14,k14,e14,hg14⟩:=own_form ho (by omega)
  subst e14
  have HB14:=Hm (bUA hb)
  have HO14:=Hm ho
  have HD14:=Hm (HD13.o.belN HB14.o)
  have HR14:=Hm (own_below HR13.o HB14.o)
  have c3':w14.cell? ⟨qc,3,none⟩=some (.slice none 0 0):=hcell HD14.o.cc 3
  have cf':w14.frozen? ⟨qc,3,none⟩=false:=hfree HD14.o.cc 3
  have cz':=hlt HD14.o.cc
  clear hb ho g0 g1 gz x0 x1 x2 x3 x4 xf2 xz c3 cz)
 rw[rounds_succ]
 have HC15:Hd ((w14.setCell ⟨qc,3,none⟩ (.slice (some ⟨g14,0,none⟩) 1 k14)).heap[qc]?=some (.cells ([.int .i64 1,.int .i64 3,.int .i64 1,.slice (some ⟨g14,0,none⟩) 1 k14]:List Value).toArray 59 (0,0))):=⟨set_at (cs:=[.int .i64 1,.int .i64 3,.int .i64 1,.slice none 0 0]) HD14.o.cc 3 _⟩
 have HQ15:=Hm (hset (p:=qc) (k:=3) (v:=.slice (some ⟨g14,0,none⟩) 1 k14) HD14.o.res (by omega))
 have hO15:Only w14 (w14.setCell ⟨qc,3,none⟩ (.slice (some ⟨g14,0,none⟩) 1 k14)) (λb=>b=qc):=oC (F:=λb=>b=qc) (Only.refl _ _) rfl _ _
 have hg9N:N≤g9:=hg9
 have hg14N:N≤g14:=hg14
 have HR15:=Hm (own_only HR14.o hO15 (λb hb e=>by cases hb;have:g9=qc:=e;omega))
 have HO15:=Hm (own_only HO14.o hO15 (λb hb e=>by cases hb;have:g14=qc:=e;omega))
 have HB15:=Hm (bO HD14.o.bel hO15 (λb e=>by have:b=qc:=e;omega))
 have hwN:w.heap.size≤N:=by omega
 clear hO15 HD12 HD13 HD14 HR12 HR13 HR14 HO14 c3' cf' cz'
 generalize w14.setCell ⟨qc,3,none⟩ (.slice (some ⟨g14,0,none⟩) 1 k14)=w15 at *
 have c0':=hcell HC15.o 0
 have c1':=hcell HC15.o 1
 have c2':=hcell HC15.o 2
 have c3':=hcell HC15.o 3
 have cz':=hlt HC15.o
 have r0:=hcell HQ15.o 0
 have r1:=hcell HQ15.o 1
 have r2:=hcell HQ15.o 2
 have r3:=hcell HQ15.o 3
 obtain⟨rf0,rf1,rf2,rf3⟩:=fF4 HQ15.o
 have rz:=hlt HQ15.o
 simp at c0' c1' c2' c3' r0 r1 r2 r3
 go_wp2_with fail
 have h9:=set_at (set_at (set_at (set_at HQ15.o 0 (.int .i64 1)) 1 (.int .i64 3)) 2 (.int .i64 1)) 3 (.slice (some ⟨g14,0,none⟩) 1 k14)
 obtain⟨s0,s1,s2,s3⟩:=cC4 h9
 refine bodyPost_ret (v:=.agg #[.int .i64 1,.int .i64 3,.int .i64 1,.slice (some ⟨g14,0,none⟩) 1 k14]) (by simp[results,Tryz.results133,go_sem,s0,s1,s2,s3]) rfl ⟨bC (bC (bC (bC HB15.o (Nat.le_refl _) _ _) (Nat.le_refl _) _ _) (Nat.le_refl _) _ _) (Nat.le_refl _) _ _,_,rfl,?_⟩
 have hO16:Only w15 ((((w15.setCell ⟨w.heap.size,0,none⟩ (.int .i64 1)).setCell ⟨w.heap.size,1,none⟩ (.int .i64 3)).setCell ⟨w.heap.size,2,none⟩ (.int .i64 1)).setCell ⟨w.heap.size,3,none⟩ (.slice (some ⟨g14,0,none⟩) 1 k14)) (λb=>b=w.heap.size):=oC (oC (oC (oC (F:=λb=>b=w.heap.size) (Only.refl _ _) rfl _ _) rfl _ _) rfl _ _) rfl _ _
 have hR:=own_only HR15.o hO16 (λb hb e=>by cases hb;have:g9=w.heap.size:=e;omega)
 have hB:=own_only HO15.o hO16 (λb hb e=>by cases hb;have:g14=w.heap.size:=e;omega)
 exact(Kd.SK.own (k:=kBlock) hB (Kd.All.single (kBlock_mk (b:=⟨[filI,bin0],⟨3,0,0,0⟩⟩) fits_ret0 (Kd.SK.own (k:=kIns) hR ((Kd.All.single (kIns_mk fits_fil (Kd.SK.nil c1 HM1.o A1))).append (Kd.All.single (kIns_mk (i:=bin0) fits_bin0 (Kd.SK.nil c2 HM2.o A2)))) (λb hb=>Nat.le_trans hwN hb)).1)) (λb hb=>Nat.le_trans hwN hb)).1
theorem tget_none (p o:Nat) (k:Int) (w:World) (c0:w.cell? ⟨p,o,none⟩=some (.slice none 0 0)):Calls Tryz.prog 166 #[.pointer (some ⟨p,o,none⟩),.int .i64 k] w λe w'=>e=.returned (.tuple #[.int .i64 0,.bool false])∧w=w':=by
 have hpz:=World.block_lt_of_cell? w _ c0
 dsimp only at hpz
 go_enter Tryz.func166,Tryz.ntmps166
 go_wp2_with fail
 refine(Tryz.slices_BinarySearch_int_empty none 0 k w).mono ?_
 rintro e w' ⟨rfl,rfl⟩
 go_wp2_with fail
 go_ret2
 exact⟨rfl,rfl⟩
def cert0:List (List PairV):=[[⟨0,3⟩]]
theorem cert_one (ok:Nat→Prop) (p:Nat) (fB lV:Value) (G:Value) (w:World) (ht:TabOk w) (h:TaskAt w p fB lV) (hv:Kd.SK kBlock w ok [⟨[binI],retE⟩] fB) :
  Calls Tryz.prog 134 #[.pointer (some ⟨p,0,none⟩),G] w λe w'=>Bel w w'∧∃ V,e=.returned V∧Kd.SK kPairs w' (λb=>w.heap.size≤b) cert0 V:=by
 have HT:=Hm ht
 have HK:=Hm h
 have HV:=Hm hv
 obtain⟨A,c,e0,-⟩:=sk_form hv
 subst e0
 obtain⟨p0,p1,p2,p3,p4,p5,p6,p7,p8,pz⟩:=h.cells
 clear h hv ht
 go_enter Tryz.func134,Tryz.ntmps134
 go_wp2_with fail
 refine(live_one [binI] 1 passOk_one ok _ _ HV.o).mono ?_
 unfold LivePost
 rintro e w1 ⟨hb1,gi,ci,vi,go,rfl,hi,ho,-⟩
 obtain⟨gv,cv,rfl,-⟩:=own_form ho (by simp)
 have HB1:=Hm hb1
 have HO1:=Hm ho
 have HK1:=Hm (HK.o.bel hb1)
 have hiz:=World.block_lt_of_cell? _ _ hi
 dsimp only at hiz
 clear hb1 ho HK p0 p1 p2 p3 p4 p5 p6 p7 p8 pz
 go_wp2_with fail
 refine wp_loop_rounds 2 ?_
 rw[rounds_succ]
 go_wp2_with fail
 refine(all_1 _ _ _ (HT.o.bel (bA HB1.o _)) (own_below HO1.o (bA (bR _) _))).mono ?_
 rintro e w2 ⟨hb2,v',rfl,ho2⟩
 obtain⟨gu,cu,rfl,hgu,hguz,hcu⟩:=ints_at ho2 (by simp)
 have u0:=hcu 0 (by simp)
 simp only[List.getElem_cons_zero] at u0
 have HB2:=Hm (bT HB1.o (bUA hb2))
 have HK2:=Hm (HK1.o.bel (bUA hb2))
 clear hb2 ho2 hcu HO1 HK1 HB1 hi hiz
 go_wp2_with fail
 refine wp_loop_rounds 2 ?_
 rw[rounds_succ]
 obtain⟨p0,p1,p2,p3,p4,p5,p6,p7,p8,pz⟩:=HK2.o.cells
 go_wp2_with fail
 refine(tget_none p 7 0 w2 p7).mono ?_
 rintro e w3 ⟨rfl,rfl⟩
 go_wp2_with (
  at_builtin
  refine app0 iPair Tryz.underlying117 rfl (.tmp 67) (.tmp 76) rfl rfl (own_none _ w.heap.size 119 2 0 rfl) (show w.heap.size≤(w2.alloc _).heap.size by have:=HB2.o.size;simp;omega) (A:=some ⟨w2.heap.size,0,none⟩) (m:=1) (c:=1) rfl (row_new w2 [.int .i64 0,.int .i64 3] 119 (0,0)) rfl (by omega) ?_
  intro v4 w4 hb ho
  obtain⟨g4,k4,e4,hg4⟩:=own_form ho (by omega)
  subst e4
  have HB4:=Hm (bT HB2.o (bUA hb))
  have HO4:=Hm ho
  clear hb ho p0 p1 p2 p3 p4 p5 p6 p7 p8 u0)
 rw[rounds_succ]
 go_wp2_with (
  at_builtin
  refine app0 iPairs Tryz.underlying69 rfl (.tmp 92) (.tmp 94) rfl rfl (own_none _ w.heap.size 117 1 0 rfl) (show w.heap.size≤(w4.alloc _).heap.size by have:=HB4.o.size;simp;omega) (A:=some ⟨w4.heap.size,0,none⟩) (m:=1) (c:=1) rfl (row_new w4 [.slice (some ⟨g4,0,none⟩) 1 k4] 117 (0,0)) rfl (by omega) ?_
  intro v5 w5 hb ho
  obtain⟨g5,k5,e5,hg5⟩:=own_form ho (by omega)
  subst e5
  have HB5:=Hm (bT HB4.o (bUA hb))
  have HO5:=Hm ho
  have HP5:=Hm (own_below HO4.o (bUA hb))
  clear hb ho)
 rw[rounds_succ]
 go_wp2_with fail
 go_ret
 have hp:Kd.SK kPair w5 (λb=>w.heap.size≤b) [⟨0,3⟩] (.slice (some ⟨g4,0,none⟩) 1 k4):=(Kd.SK.own (k:=kPair) HP5.o (Kd.All.single (kPair_mk (p:=⟨0,3⟩) (wf64.2 (by simp)) (wf64.2 (by simp)))) (λb hb=>hb)).1
 exact⟨HB5.o,_,rfl,(Kd.SK.own (k:=kPairs) HO5.o (Kd.All.single ⟨_,rfl,hp⟩) (λb hb=>hb)).1⟩
def fun0:Func:=⟨1,2,[⟨[binI],retE⟩]⟩
theorem fun0_ok:FuncOk fun0:=by
 refine⟨by simp[fun0],by simp[fun0],by simp[fun0],by simp[fun0],by simp[fun0],by simp[fun0],?_⟩
 intro b hb
 simp[fun0] at hb
 subst hb
 refine⟨by simp,?_,?_⟩
 ·intro i hi
  simp at hi
  subst hi
  exact⟨by simp[binI],by simp[binI],by simp[binI],by simp[binI],by simp[binI],by simp[binI],by simp[binI],by simp[binI],by simp[binI],by simp[binI],by simp[binI,usesL,fun0],by simp[binI,fun0]⟩
 ·simp[EndOk,retE,fun0]
theorem alloc_one (ok:Nat→Prop) (fB:Value) (w:World) (ht:TabOk w) (hv:Kd.SK kBlock w ok fun0.blocks fB) (hok:∀ b,ok b→b < w.heap.size) :
  Calls Tryz.prog 105 #[.agg #[.int .i64 1,.int .i64 2,fB],.int .i64 3,.bool false] w λe w'=>Bel w w'∧∃ V C,e=.returned (.tuple #[.agg #[.int .i64 1,.int .i64 3,.int .i64 1,V],C,.int .i64 0])∧Kd.SK kBlock w' (λb=>w.heap.size≤b) code0.blocks V∧Kd.SK kPairs w' (λb=>w.heap.size≤b) cert0 C:=by
 have HT:=Hm ht
 have HV:=Hm hv
 have HO:=Hm hok
 obtain⟨A,c,e0,-⟩:=sk_form hv
 rw[show fun0.blocks.length=1 from rfl] at e0
 subst e0
 have hfa:=run_fault
 clear hv ht hok
 go_enter Tryz.func105,Tryz.ntmps105
 go_wp2_with fail
 have hb0:Bel w ((w.alloc (.cells #[.int .i64 1,.int .i64 2,.slice A 1 c] 99)).alloc (.cells #[.int .i64 0,.int .i64 0,.int .i64 0,.slice none 0 0] 59)):=bA (bA (bR _) _) _
 refine(check_ok fun0 fun0_ok ok _ _ (sk_bel HV.o hb0)).mono ?_
 rintro e w1 ⟨rfl,hb1⟩
 have h0:w1.heap[w.heap.size]?=some (.cells #[.int .i64 1,.int .i64 2,.slice A 1 c] 99 (0,0)):=bHeap (bUA hb1) (hnew rfl)
 have HR1:Hd (w1.heap[w.heap.size+1]?=some (.cells ([.int .i64 0,.int .i64 0,.int .i64 0,.slice none 0 0]:List Value).toArray 59 (0,0))):=⟨bHeap hb1 (hnew (by simp))⟩
 have q0:=hcell h0 0
 have q1:=hcell h0 1
 have q2:=hcell h0 2
 have qz:=hlt h0
 simp at q0 q1 q2
 have HB1:=Hm (bT hb0 hb1)
 have hz1:=HB1.o.size
 clear hb0 hb1 h0
 go_wp2_with fail
 clear hfa q0 q1 q2 qz
 obtain⟨p,hp⟩:∃ p,p=w1.heap.size:=⟨_,rfl⟩
 rw[←hp]
 have HK2:Hd (TaskZ (w1.alloc (.cells #[.int .i64 1,.int .i64 2,.slice A 1 c,.slice none 0 0,.int .i64 0,.int .i64 3,.int .i64 0,.slice none 0 0,.slice none 0 0] 252)) p (.slice A 1 c) (.slice none 0 0) 0 0):=⟨hnew hp⟩
 have HB2:=Hm (bT HB1.o (bA (bR w1) (.cells #[.int .i64 1,.int .i64 2,.slice A 1 c,.slice none 0 0,.int .i64 0,.int .i64 3,.int .i64 0,.slice none 0 0,.slice none 0 0] 252)))
 have HR2:=Hm (bHeap (bA (bR w1) (.cells #[.int .i64 1,.int .i64 2,.slice A 1 c,.slice none 0 0,.int .i64 0,.int .i64 3,.int .i64 0,.slice none 0 0,.slice none 0 0] 252)) HR1.o)
 have hrp:w.heap.size+1 < p:=by have:=hlt HR1.o;omega
 clear hp HB1 HR1 hz1
 generalize w1.alloc (.cells #[.int .i64 1,.int .i64 2,.slice A 1 c,.slice none 0 0,.int .i64 0,.int .i64 3,.int .i64 0,.slice none 0 0,.slice none 0 0] 252)=w2 at *
 refine(begin_one ok p (.slice A 1 c) w2 (sk_bel HV.o HB2.o) (λb hb=>by have:=HO.o b hb;omega) HK2.o).mono ?_
 rintro e w3 ⟨rfl,hs,lV,hk,hl⟩
 have HB3:=Hm (bO HB2.o hs (λb e=>by have:b=p:=e;omega))
 have HK3:=Hm hk
 have HL3:=Hm hl
 have HR3:=Hm (hs.heap HR2.o (λe=>by have:w.heap.size+1=p:=e;omega))
 clear hs hk hl HK2 HB2 HR2
 go_wp2_with fail
 refine wp_loop_rounds 1 ?_
 rw[rounds_succ]
 go_wp2_with fail
 refine(round_one _ (HT.o.bel HB3.o) HL3.o HK3.o).mono ?_
 rintro e w4 ⟨hb,g,rfl,-,hg⟩
 have HB4:=Hm (bT HB3.o hb)
 have HK4:=Hm (HK3.o.bel hb)
 have HL4:=Hm (sk_bel HL3.o hb)
 have HR4:=Hm (bHeap hb HR3.o)
 have HG4:=Hm hg
 clear hb hg HB3 HK3 HL3 HR3
 go_wp2_with fail
 refine(code_one _ p g _ _ w4 HK4.o HL4.o HG4.o).mono ?_
 rintro e w5 ⟨hb,V,rfl,hV⟩
 have HB5:=Hm (bT HB4.o hb)
 have HK5:=Hm (HK4.o.bel hb)
 have HR5:=Hm (bHeap hb HR4.o)
 have HV5:Hd (Kd.SK kBlock w5 (λb=>w.heap.size+1 < b) code0.blocks V):=⟨hV.stay (Stays.weaken λb hb=>by have:=hlt HR4.o;omega)⟩
 clear hb hV HB4 HK4 HL4 HR4 HG4
 go_wp2_with fail
 refine(cert_one ok p _ _ _ w5 (HT.o.bel HB5.o) HK5.o (sk_bel HV.o HB5.o)).mono ?_
 rintro e w6 ⟨hb,C,rfl,hC⟩
 have HB6:=Hm (bT HB5.o hb)
 have HR6:=Hm (bHeap hb HR5.o)
 have HV6:=Hm (sk_bel HV5.o hb)
 have HC6:Hd (Kd.SK kPairs w6 (λb=>w.heap.size+1 < b) cert0 C):=⟨hC.stay (Stays.weaken λb hb=>by have:=hlt HR5.o;omega)⟩
 obtain⟨AV,cV,eV,-⟩:=sk_form HV6.o
 obtain⟨AC,cC,eC,-⟩:=sk_form HC6.o
 subst eV eC
 clear hb hC HB5 HK5 HR5 HV5
 have r0:=hcell HR6.o 0
 have r1:=hcell HR6.o 1
 have r2:=hcell HR6.o 2
 have r3:=hcell HR6.o 3
 obtain⟨rf0,rf1,rf2,rf3⟩:=fF4 HR6.o
 have rz:=hlt HR6.o
 simp at r0 r1 r2 r3
 go_wp2_with fail
 have h9:=set_at (set_at (set_at (set_at HR6.o 0 (.int .i64 1)) 1 (.int .i64 3)) 2 (.int .i64 1)) 3 (.slice AV code0.blocks.length cV)
 obtain⟨s0,s1,s2,s3⟩:=cC4 h9
 refine bodyPost_ret (v:=.tuple #[.agg #[.int .i64 1,.int .i64 3,.int .i64 1,.slice AV code0.blocks.length cV],.slice AC cert0.length cC,.int .i64 0]) (by simp[results,Tryz.results105,go_sem,s0,s1,s2,s3]) rfl ⟨bC (bC (bC (bC HB6.o (by omega) _ _) (by omega) _ _) (by omega) _ _) (by omega) _ _,_,_,rfl,?_,?_⟩
 all_goals
  have hO:Only w6 ((((w6.setCell ⟨w.heap.size+1,0,none⟩ (.int .i64 1)).setCell ⟨w.heap.size+1,1,none⟩ (.int .i64 3)).setCell ⟨w.heap.size+1,2,none⟩ (.int .i64 1)).setCell ⟨w.heap.size+1,3,none⟩ (.slice AV code0.blocks.length cV)) (λb=>b=w.heap.size+1):=oC (oC (oC (oC (F:=λb=>b=w.heap.size+1) (Only.refl _ _) rfl _ _) rfl _ _) rfl _ _) rfl _ _
 ·exact(HV6.o.stay (hO.stays (λb hb e=>by have:b=w.heap.size+1:=e;omega))).stay (Stays.weaken λb hb=>by omega)
 ·exact(HC6.o.stay (hO.stays (λb hb e=>by have:b=w.heap.size+1:=e;omega))).stay (Stays.weaken λb hb=>by omega)
def encFunc (c:Func):List UInt8:=flatL [c.params,c.vregs]++encBlocks c.blocks
theorem wfunc_any (f:Func) (h:FuncOk f) (hf:∀ b∈f.blocks,BlockFine b) (ok:Nat→Prop) (v:Value) (w:World) (hv:Kd.SK kBlock w ok f.blocks v) :
  Calls Tryz.prog 103 #[.agg #[.int .i64 f.params,.int .i64 f.vregs,v]] w λe w'=>Bel w w'∧∃ V,e=.returned (.tuple #[V,.int .i64 0])∧NewB w w' V (encFunc f):=by
 have HCk:=Hm (λ(w':World) (hb:Bel w w')=>check_ok f h ok v w' (sk_bel hv hb))
 have HV:=Hm (sk_lt hv)
 have HF:=Hm (And.intro hf h.n16)
 have hs3:∀ x∈[f.params,f.vregs],0≤x∧x < 4294967296:=by
  have h1:=h.p0;have h2:=h.p4;have h5:=h.pv;have h6:=h.v32
  simp only[List.mem_cons,List.not_mem_nil,or_false]
  rintro x (rfl|rfl)<;>omega
 have HS3:=Hm hs3
 obtain⟨params,vregs,blocks⟩:=f
 obtain⟨A,c,rfl,-,-⟩:=sk_form hv
 simp only at *
 clear h hf hv hs3
 have hfld:=run_fault
 go_enter Tryz.func103,Tryz.ntmps103
 go_wp2_with fail
 refine(HCk.o _ (bA (bR _) _)).mono ?_
 rintro e w1 ⟨rfl,hb1⟩
 have HB1:=Hm (bUA hb1)
 obtain⟨w0,hw0⟩:∃ w0,w0=w.alloc (.cells #[.int .i64 params,.int .i64 vregs,.slice A blocks.length c] 99):=⟨_,rfl⟩
 have q0:w1.cell? ⟨w.heap.size,0,none⟩=some (.int .i64 params):=bCell hb1 (by go_simp)
 have q1:w1.cell? ⟨w.heap.size,1,none⟩=some (.int .i64 vregs):=bCell hb1 (by go_simp)
 have q3:w1.cell? ⟨w.heap.size,2,none⟩=some (.slice A blocks.length c):=bCell hb1 (by go_simp)
 have hz1:w.heap.size < w1.heap.size:=by have:=hb1.size;simp at this;omega
 have HW2:=Hm (wr_new w1)
 have HQ2:Hd ((w1.alloc (.cells #[.slice none 0 0] 229)).cell? ⟨w.heap.size,2,none⟩=some (.slice A blocks.length c)):=⟨bCell (bA (bR _) _) q3⟩
 clear hb1 hw0
 go_wp2_with fail
 refine(nums_lit w1.heap.size [] [params,vregs] _ (w1.heap.size+1) _ (by simp) rfl HW2.o HS3.o (by simp)).mono ?_
 rintro e w3 ⟨rfl,hs⟩
 have hne:w.heap.size≠w1.heap.size:=by omega
 have q3':=gOne hs.grown hne HQ2.o
 have HS:=Hm hs
 have HL:Hd (([]++flatL [params,vregs]:List UInt8).length≤1000):=⟨by
  have:=flatL_len _ HS3.o
  simp only[List.nil_append,List.length_cons,List.length_nil] at *;omega⟩
 clear hs q0 q1 q3
 have HV3:=Hm ((sk_bel HV.o (bT HB1.o (bA (bR w1) (.cells #[.slice none 0 0] 229)))).stay (Stays.grown HS.o.grown λb hb e=>by simp at e;have:=HB1.o.size;omega))
 go_wp2_with fail
 refine(wblocks_any w1.heap.size _ blocks (λb=>b < w.heap.size) _ w3 HS.o.wr (λb hb=>by have:=HB1.o.size;omega) HV3.o HF.o.1 HF.o.2 HL.o).mono ?_
 rintro e w4 ⟨rfl,hs4⟩
 obtain⟨A4,ca4,hw4,hn4⟩:=hs4.wr.newB (w:=w) (Nat.le_of_lt hz1)
 have HB4:Hd (Bel w w4):=⟨HB1.o.trans ((bA (bR w1) _).mono HB1.o.size) |>.grown (grownBy_trans HS.o.grown hs4.grown) (by have:=HB1.o.size;simp;omega) (λk hk=>by cases hk;exact HB1.o.size)⟩
 have HN4:=Hm hn4
 have x0:=hw4.c0
 clear hs4 hw4 hn4 q3'
 go_wp2
 go_ret2
 exact⟨HB4.o,_,rfl,by simpa [encFunc] using HN4.o⟩
def askBody (job lease regs:Nat) (f:Func):List UInt8:=leb job++leb lease++leb regs++encFunc f
theorem putAsk_any (job lease regs:Nat) (hj:job < 16) (hl:lease < 18446744073709551616) (hr8:regs≤8) (f:Func) (h:FuncOk f) (hf:∀ b∈f.blocks,BlockFine b)
  (hlen:(askBody job lease regs f).length≤65536) (ok:Nat→Prop) (v:Value) (w:World) (hv:Kd.SK kBlock w ok f.blocks v) :
  Calls Tryz.prog 65 #[.agg #[.int .i64 job,.int .u64 lease,.int .i64 regs,.int .i64 f.params,.int .i64 f.vregs,v]] w λe w'=>Bel w w'∧∃ V,e=.returned (.tuple #[V,.int .i64 0])∧NewB w w' V (layF 2 (askBody job lease regs f)):=by
 obtain⟨A,c,rfl,-,-⟩:=sk_form hv
 have HC:=Hm (λ(w':World) (hb:Bel w w')=>wfunc_any f h hf ok _ w' (sk_bel hv hb))
 have HLen:=Hm hlen
 have hlc:(encFunc f).length≤65536:=by unfold askBody at hlen;simp only[List.length_append] at hlen;omega
 obtain⟨C,hC⟩:∃ C,encFunc f=C:=⟨_,rfl⟩
 have HE:=Hm hC
 rw[hC] at HC hlc
 obtain⟨params,vregs,blocks⟩:=f
 simp only at *
 have HJ:=Hm (And.intro hj (And.intro hl hlc))
 have hj1:¬(job:Int) < 0:=by omega
 have hj2:¬16≤(job:Int):=by omega
 have hr1:¬(regs:Int) < 0:=by omega
 have hr2:¬8 < (regs:Int):=by omega
 have hl10:=leb_len10 (n:=job) (by omega)
 have hl11:=leb_len10 hl
 have hl12:=leb_len10 (n:=regs) (by omega)
 have HJL:=Hm (And.intro hl10 (And.intro hl11 hl12))
 clear h hf hlen hv hC hl10 hl11 hl12
 have hwj:IntKind.u64.wrap (job:Int)=job:=wrap_u64 job (by omega)
 have hwc:IntKind.u64.wrap (regs:Int)=regs:=wrap_u64 regs (by omega)
 clear hl
 go_enter Tryz.func65,Tryz.ntmps65
 go_wp2_with fail
 refine(HC.o _ (bA (bR _) _)).mono ?_
 rintro e w1 ⟨hb1,V1,rfl,hn1⟩
 obtain⟨A1,c1,rfl,hB1,hcap1,hnew1⟩:=hn1
 have q0:w1.cell? ⟨w.heap.size,0,none⟩=some (.int .i64 job):=bCell hb1 (by go_simp)
 have q1:w1.cell? ⟨w.heap.size,1,none⟩=some (.int .u64 lease):=bCell hb1 (by go_simp)
 have q2:w1.cell? ⟨w.heap.size,2,none⟩=some (.int .i64 regs):=bCell hb1 (by go_simp)
 have HB2:=Hm (bUA hb1)
 have HY2:=Hm hB1
 clear hb1 hB1 hcap1 hnew1
 go_wp2_with fail
 refine rgn [.rd 0,.rd 1,.rd 2,.rd 4,.rd 5,.rd 7,.rd 8,.rd 9,.hv 3 [4,5,7,8,9],.hv 6 [7,8,9],.hv 10 [],.rd 11] (n:=53) rfl ?_
 iterate 8 (refine line_rd rfl (λK hK=>?_);go_simp;refine hK _ ?_;clear hK K)
 refine line_hv rfl ?_
 go_wp2_with fail
 refine(put_any none 0 [] job (World.drew w1) (Bytes.nil _ _) (by simp) (by have:=HJ.o.1;omega)).mono ?_
 rintro e w3 ⟨hb3,v3,rfl,ho3⟩
 rw[List.nil_append] at ho3
 obtain⟨A3,c3,rfl,hr3,hl3,-,-,-⟩:=own_row ho3
 simp only[List.length_map] at hl3
 have s1:=bCell (bU hb3) q1
 have s2:=bCell (bU hb3) q2
 have HB3:=Hm (bT HB2.o (bU hb3))
 have HY3:=Hm (And.intro (HY2.o.below (bU hb3)) (show Bytes w3 A3 (leb job) from hr3))
 clear hb3 ho3 hr3 hl3 q0 q1 q2
 go_wp2_with fail
 refine⟨?_,?_⟩
 ·simp only[Again,slotOf]
  go_simp
 refine line_hv rfl ?_
 go_wp2_with fail
 refine(put_any A3 c3 (leb job) lease w3 HY3.o.2 (by have:=HJL.o.1;omega) HJ.o.2.1).mono ?_
 rintro e w4 ⟨hb4,v4,rfl,ho4⟩
 obtain⟨A4,c4,rfl,hr4,hl4,-,-,-⟩:=own_row ho4
 have s2':=bCell hb4 s2
 have HB4:=Hm (bT HB3.o hb4)
 have HY4:=Hm (And.intro (HY3.o.1.below hb4) (show Bytes w4 A4 (leb job++leb lease) from hr4))
 clear hb4 ho4 hr4 hl4 s1 s2
 go_wp2_with fail
 refine⟨?_,?_⟩
 ·simp only[Again,slotOf]
  go_simp
 refine line_hv rfl ?_
 go_wp2_with fail
 obtain⟨B4,hB4⟩:∃ B,leb job++leb lease=B:=⟨_,rfl⟩
 have hBl4:B4.length≤20:=by rw[←hB4];have:=HJL.o;simp only[List.length_append];omega
 have e4:(leb job).length+(leb lease).length=B4.length:=by rw[←hB4];simp
 rw[hB4] at HY4
 rw[e4]
 have HB4E:=Hm hB4
 clear hB4 e4
 refine(put_any A4 c4 B4 regs w4 HY4.o.2 (by omega) (by omega)).mono ?_
 rintro e w5 ⟨hb5,v5,rfl,ho5⟩
 have HB5:=Hm (bT HB4.o hb5)
 have HY5:=Hm (HY4.o.1.below hb5)
 obtain⟨B5,hB5⟩:∃ B,B4++leb regs=B:=⟨_,rfl⟩
 have hBl5:B5.length≤30:=by rw[←hB5];have:=HJL.o;simp only[List.length_append];omega
 rw[hB5] at ho5
 have HO5:Hd (OwnB w5 w4.heap.size v5 B5):=⟨ho5⟩
 have HZ5:Hd (w4.heap.size≤w5.heap.size):=⟨hb5.size⟩
 have HB5E:=Hm hB5
 clear hb5 ho5 hB5 HY4
 go_wp2_with fail
 refine⟨?_,?_⟩
 ·exact trivial
 refine line_rd rfl (λK hK=>?_);go_simp;refine hK _ ?_;clear hK K
 unfold Line
 go_wp2_with (first
  |(at_builtin;refine app iByte Tryz.underlying38 rfl (.tmp 47) (.tmp 48) rfl rfl HO5.o HZ5.o (A:=A1) (m:=C.length) (c:=c1) (news:=C.map byteV) rfl HY5.o (by simp) byte_one (by have:=HJ.o;omega) ?_))
 intro v7 w7 ho7 hg7
 have HO7:Hd (OwnB w7 w4.heap.size v7 (B5++C)):=⟨by simpa [OwnB] using ho7⟩
 have HB7:=Hm (bG HB5.o hg7 (λq hq=>Nat.le_trans HB4.o.size (HO5.o.lt q hq).1))
 have hbody:B5++C=askBody job lease regs ⟨params,vregs,blocks⟩:=by
  unfold askBody
  rw[HE.o,HB4E.o,HB5E.o]
 obtain⟨B7,hB7⟩:∃ B,B5++C=B:=⟨_,rfl⟩
 rw[hB7] at HO7 hbody
 rw[←hbody] at HLen
 have HBody:=Hm hbody
 clear hbody hB7 ho7 hg7 HO5 HY5
 obtain⟨A7,c7,rfl,hr7,hl7,-,-,-⟩:=own_row HO7.o
 have HR7:Hd (Bytes w7 A7 B7):=⟨hr7⟩
 simp only[List.length_map] at hl7
 clear hr7 HO7 hl7
 have hlay:=lay_any 2 A7 c7 B7 w7 HR7.o HLen.o
 have HLay:=Hm hlay
 clear hlay
 go_wp2_with fail
 refine HLay.o.mono ?_
 rintro e w8 ⟨hb8,v8,rfl,ho8⟩
 have HB8:=Hm (bT HB7.o hb8)
 have HN8:=Hm ((NewB.ofOwn ho8).base HB7.o)
 clear hb8 ho8
 go_wp2
 go_ret2
 exact⟨HB8.o,_,rfl,by rw[←HBody.o];exact HN8.o⟩
end Go.Proofs.YtjkgligohegaeaaGreatDoor
