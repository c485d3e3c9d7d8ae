/- Lemmas of the row. -/
import Derived.Test.YtjkgligohegaeaaGreatDoorN25
set_option linter.all false
set_option maxRecDepth 20000
set_option maxHeartbeats 12800000
namespace Go.Proofs.YtjkgligohegaeaaGreatDoor
open Go.RowKit
theorem passOk_two:Hd (PassOk [filI,binI] 0):=⟨pass_two⟩
theorem passOk_one:Hd (PassOk [binI] 1):=⟨pass_one⟩
theorem graph_one (ok:Nat→Prop) (V:Value) (w:World) (ht:TabOk w) (hv:Kd.SK kBlock w ok [⟨[filI,binI],retE⟩] V) :
  Calls Tryz.prog 160 #[V,.int .i64 2] w λe w'=>e=.returned (.agg #[.int .i64 2,.slice none 0 0,.slice none 0 0])∧Bel w w':=by
 have HT:=Hm ht
 have HV:=Hm hv
 obtain⟨b,off,c,u,rfl,-,hb,-⟩:=block_cells hv 0 (by simp) ⟨[filI,binI],retE⟩ rfl
 clear hv ht
 go_enter Tryz.func160,Tryz.ntmps160
 go_wp2_with fail
 have hb0:Bel w (w.alloc (.cells #[.int .i64 0,.slice none 0 0,.slice none 0 0] 286)):=bA (bR _) _
 refine(live_one [filI,binI] 0 passOk_two ok _ _ (sk_bel HV.o hb0)).mono ?_
 unfold LivePost
 rintro e w1 ⟨hb1,gi,ci,vi,go,rfl,-,-,g0⟩
 have HB1:=Hm (bT hb0 hb1)
 have HR1:Hd (w1.heap[w.heap.size]?=some (.cells #[.int .i64 0,.slice none 0 0,.slice none 0 0] 286 (0,0))):=⟨bHeap hb1 (hnew rfl)⟩
 clear hb0 hb1
 go_wp2_with fail
 refine wp_loop_rounds 2 ?_
 rw[rounds_succ]
 obtain⟨b',off',c',u1,e',-,hb',hu',y0,y1,y2,y3,y4⟩:=block_cells (sk_bel HV.o HB1.o) 0 (by simp) ⟨[filI,binI],retE⟩ rfl
 cases e'
 simp only[retE,Nat.zero_mul,Nat.add_zero] at y0 y1 y2 y3 y4
 obtain⟨bI,oI,cI,A0,c0,rfl,-⟩:=ins_cells hu' 0 (by simp) filI rfl rfl
 have HU:=Hm hu'
 clear hu'
 go_wp2_with fail
 obtain⟨X,hX⟩:∃ X,X=w1.alloc (.cells #[.slice (some ⟨bI,oI,none⟩) 2 cI,.int .u8 3,.int .i64 1,.int .i64 0,.int .i64 0] 97):=⟨_,rfl⟩
 obtain⟨q,hq⟩:∃ q,q=w1.heap.size:=⟨_,rfl⟩
 rw[←hX,←hq]
 have hb1:Bel w1 X:=by rw[hX];exact bA (bR _) _
 have HQ:Hd (X.heap[q]?=some (.cells #[.slice (some ⟨bI,oI,none⟩) 2 cI,.int .u8 3,.int .i64 1,.int .i64 0,.int .i64 0] 97 (0,0))):=⟨by rw[hX];exact hnew hq⟩
 have HBX:=Hm (bT HB1.o hb1)
 have HRX:=Hm (bHeap hb1 HR1.o)
 have HUX:=Hm (sk_bel HU.o hb1)
 have g0':=bCell hb1 g0
 obtain⟨q0,q1,q2,q3,q4,qz⟩:=cs5 HQ.o
 clear hX hq hb1 g0 y0 y1 y2 y3 y4 HR1 HB1 HU hb'
 refine rgn [.rd 0,.rd 1,.rd 2,.rd 3,.rd 4,.hv 5 [],.rd 6] (n:=127) rfl ?_
 iterate 5 (refine line_rd rfl (λK hK=>?_);go_simp;refine hK _ ?_;clear hK K)
 refine line_hv rfl ?_
 go_wp2_with fail
 refine(behind_two ok _ _ (sk_bel HUX.o (bD (bR _)))).mono ?_
 unfold BehindPost
 rintro e w2 ⟨hb2,g,v0,v1,rfl,hg,ho0,ho1⟩
 have hb2':=bU hb2
 have HB2:=Hm (bT HBX.o hb2')
 have HR2:=Hm (bHeap hb2' HRX.o)
 have HU2:=Hm (sk_bel HUX.o hb2')
 have HQ2:=Hm (bHeap hb2' HQ.o)
 have HG2:=Hm hg
 have H02:=Hm ho0
 have H12:=Hm ho1
 obtain⟨gA,cA,rfl,-⟩:=own_form ho0 (by simp)
 obtain⟨gZ,cZ,rfl,-⟩:=own_form ho1 (by simp)
 clear hb2 hb2' hg ho0 ho1 HBX HRX HUX HQ q0 q1 q2 q3 q4 qz g0'
 obtain⟨q0,q1,q2,q3,q4,qz⟩:=cs5 HQ2.o
 have s0:=hcell HG2.o 0
 have s1:=hcell HG2.o 1
 have sz:=hlt HG2.o
 simp at s0 s1
 go_wp2_with fail
 refine⟨?_,?_⟩
 ·exact trivial
 refine line_rd rfl (λK hK=>?_);go_simp;refine hK _ ?_;clear hK K
 unfold Line
 obtain⟨bJ,oJ,cJ,A1,c1,e1,-,-,y0,y1,y2,y3,y4,y5,y6⟩:=ins_cells HU2.o 0 (by simp) filI rfl rfl
 cases e1
 simp only[filI,Nat.zero_mul,Nat.one_mul,Nat.add_zero] at y0 y1 y2 y3 y4 y5 y6
 go_wp2_with fail
 refine wp_loop_rounds 3 ?_
 rw[rounds_succ]
 go_wp2_with fail
 refine(gives_any 8 0 0 0 0 0 A1 0 c1 _).mono ?_
 rintro e w3 ⟨rfl,hb⟩
 have HX:Hd (w3.heap[w2.heap.size]?=some (.cells #[.int .u8 8,.int .u8 0,.int .i64 0,.int .i64 0,.int .i64 0,.int .i64 0,.slice A1 0 c1] 91 (0,0))):=⟨bHeap hb (hnew rfl)⟩
 have HB3:=Hm (bT HB2.o (bUA hb))
 have HR3:=Hm (bHeap (bUA hb) HR2.o)
 have HU3:=Hm (sk_bel HU2.o (bUA hb))
 have HG3:=Hm (bHeap (bUA hb) HG2.o)
 have H03:=Hm (own_below H02.o (bUA hb))
 have H13:=Hm (own_below H12.o (bUA hb))
 clear hb HB2 HR2 HU2 HG2 H02 H12 s0 s1 sz y0 y1 y2 y3 y4 y5 y6 q0 q1 q2 q3 q4 qz HQ2
 have s0:=hcell HG3.o 0
 have s1:=hcell HG3.o 1
 have sz:=hlt HG3.o
 simp at s0 s1
 have gv:givesD 8 0=0:=rfl
 have gb:givesB 8=true:=rfl
 rw[gv,gb]
 clear gv gb
 go_wp2_with fail
 refine(all_1 _ _ w3 (HT.o.bel HB3.o) H03.o).mono ?_
 rintro e w4 ⟨hb,v',rfl,ho⟩
 obtain⟨gu,cu,rfl,hgu,hguz,hcu⟩:=ints_at ho (by simp)
 have u0:=hcu 0 (by simp)
 simp only[List.getElem_cons_zero] at u0
 have HB4:=Hm (bT HB3.o hb)
 have HR4:=Hm (bHeap hb HR3.o)
 have HU4:=Hm (sk_bel HU3.o hb)
 have HG4:=Hm (bHeap hb HG3.o)
 have H04:=Hm (own_below H03.o hb)
 have H14:=Hm (own_below H13.o hb)
 obtain⟨x0,x1,x2,x3,x4,x5,x6,xz⟩:=cs7 (bHeap hb HX.o)
 clear hb ho hcu HB3 HR3 HU3 HG3 H03 H13 s0 s1 sz HX
 have s0:=hcell HG4.o 0
 have s1:=hcell HG4.o 1
 have sz:=hlt HG4.o
 simp at s0 s1
 go_wp2_with fail
 refine wp_loop_rounds 2 ?_
 rw[rounds_succ]
 go_wp2_with fail
 rw[rounds_succ]
 go_wp2_with fail
 clear x0 x1 x2 x3 x4 x5 x6 xz u0 hguz hgu
 obtain⟨bJ,oJ,cJ,A2,c2,e2,-,-,y0,y1,y2,y3,y4,y5,y6⟩:=ins_cells HU4.o 1 (by simp) binI rfl rfl
 cases e2
 simp only[binI,Nat.zero_mul,Nat.one_mul,Nat.add_zero] at y0 y1 y2 y3 y4 y5 y6
 rw[rounds_succ]
 go_wp2_with fail
 refine(gives_any 3 1 1 0 0 0 A2 0 c2 _).mono ?_
 rintro e w5 ⟨rfl,hb⟩
 have HX:Hd (w5.heap[w4.heap.size]?=some (.cells #[.int .u8 3,.int .u8 1,.int .i64 1,.int .i64 0,.int .i64 0,.int .i64 0,.slice A2 0 c2] 91 (0,0))):=⟨bHeap hb (hnew rfl)⟩
 have HB5:=Hm (bT HB4.o (bUA hb))
 have HR5:=Hm (bHeap (bUA hb) HR4.o)
 have HU5:=Hm (sk_bel HU4.o (bUA hb))
 have HG5:=Hm (bHeap (bUA hb) HG4.o)
 have H05:=Hm (own_below H04.o (bUA hb))
 have H15:=Hm (own_below H14.o (bUA hb))
 clear hb HB4 HR4 HU4 HG4 H04 H14 s0 s1 sz y0 y1 y2 y3 y4 y5 y6
 have s0:=hcell HG5.o 0
 have s1:=hcell HG5.o 1
 have sz:=hlt HG5.o
 simp at s0 s1
 have gv:givesD 3 1=1:=rfl
 have gb:givesB 3=true:=rfl
 rw[gv,gb]
 clear gv gb
 go_wp2_with fail
 refine(all_2 _ _ w5 (HT.o.bel HB5.o) H15.o).mono ?_
 rintro e w6 ⟨hb,v',rfl,ho⟩
 obtain⟨gu,cu,rfl,hgu,hguz,hcu⟩:=ints_at ho (by simp)
 have u0:=hcu 0 (by simp)
 simp only[List.getElem_cons_zero] at u0
 have HB6:=Hm (bT HB5.o hb)
 have HR6:=Hm (bHeap hb HR5.o)
 have HU6:=Hm (sk_bel HU5.o hb)
 have HG6:=Hm (bHeap hb HG5.o)
 have H06:=Hm (own_below H05.o hb)
 have H16:=Hm (own_below H15.o hb)
 obtain⟨x0,x1,x2,x3,x4,x5,x6,xz⟩:=cs7 (bHeap hb HX.o)
 clear hb ho hcu HB5 HR5 HU5 HG5 H05 H15 s0 s1 sz HX
 have s0:=hcell HG6.o 0
 have s1:=hcell HG6.o 1
 have sz:=hlt HG6.o
 simp at s0 s1
 go_wp2_with fail
 refine wp_loop_rounds 2 ?_
 rw[rounds_succ]
 go_wp2_with fail
 rw[rounds_succ]
 go_wp2_with fail
 clear x0 x1 x2 x3 x4 x5 x6 xz u0 hguz hgu
 rw[rounds_succ]
 go_wp2_with fail
 rw[rounds_succ]
 go_wp2_with fail
 refine(sortedE _).mono ?_
 rintro e w7 ⟨rfl,rfl⟩
 go_wp2_with fail
 refine(sortedE _).mono ?_
 rintro e w8 ⟨rfl,rfl⟩
 have r0:=hcell HR6.o 0
 have r1:=hcell HR6.o 1
 have r2:=hcell HR6.o 2
 obtain⟨f0,f1,f2⟩:=fF3 HR6.o
 have rz:=hlt HR6.o
 simp at r0 r1 r2
 go_wp2_with fail
 refine wp_loop_rounds 1 ?_
 rw[rounds_succ]
 go_wp2_with fail
 have t0:=hcell (set_at (cs:=[.int .i64 2,.slice none 0 0,.slice none 0 0]) (set_at (cs:=[.int .i64 2,.slice none 0 0,.slice none 0 0]) (set_at (cs:=[.int .i64 0,.slice none 0 0,.slice none 0 0]) HR6.o 0 (.int .i64 2)) 1 (.slice none 0 0)) 2 (.slice none 0 0))
 have t0':=t0 0
 have t1':=t0 1
 have t2':=t0 2
 simp at t0' t1' t2'
 refine bodyPost_ret (v:=.agg #[.int .i64 2,.slice none 0 0,.slice none 0 0]) (by simp[results,Tryz.results160,go_sem,r0,r1,r2,t0',t1',t2',rz]) rfl ⟨rfl,bA (bC (bC (bC HB6.o (Nat.le_refl _) _ _) (Nat.le_refl _) _ _) (Nat.le_refl _) _ _) _⟩
structure Wk (X:World) (p gN:Nat) (v1 v4 v5 v6:Value) (k:Nat) (st:List Int):Prop where
 head:X.heap[p]?=some (.cells ([.int .i64 3,v1,.slice (some ⟨gN,0,none⟩) 2 2,.slice none 0 0,v4,v5,v6]:List Value).toArray 348 (0,0))
 near:X.heap[gN]?=some (.cells #[.slice none 0 0,.slice none 0 0] 291 (0,0))
 np:gN < p
 stands:OwnI X (p+1) v4 [0,1]
 left:OwnU X (p+1) v5 [k]
 stack:OwnI X (p+1) v6 st
 a45:∀ b,v4.ownBlock=some b→v5.ownBlock≠some b
 a46:∀ b,v4.ownBlock=some b→v6.ownBlock≠some b
 a56:∀ b,v5.ownBlock=some b→v6.ownBlock≠some b
 one1:v1.oneCell'=true
section
variable {X X':World} {p gN k n:Nat} {v1 v4 v5 v6:Value} {st:List Int}
theorem Wk.bel (h:Wk X p gN v1 v4 v5 v6 k st) (hb:Bel X X'):Wk X' p gN v1 v4 v5 v6 k st :=
 { h with head:=bHeap hb h.head,near:=bHeap hb h.near,stands:=own_below h.stands hb,left:=own_below h.left hb,stack:=own_below h.stack hb }
theorem Wk.cut (h:Wk X p gN v1 v4 v5 v6 k st) (hs:Only X X' (λb=>v5.ownBlock=some b)) (ho:OwnU X' (p+1) v5 [n]):Wk X' p gN v1 v4 v5 v6 n st :=
 { h with
  head:=hs.heap h.head (λe=>by have:=(h.left.lt _ e).1;omega)
  near:=hs.heap h.near (λe=>by have:=(h.left.lt _ e).1;have:=h.np;omega)
  stands:=own_only h.stands hs (λb hb e=>h.a45 b hb e)
  left:=ho
  stack:=own_only h.stack hs (λb hb e=>h.a56 b e hb) }
theorem Wk.cells (h:Wk X p gN v1 v4 v5 v6 k st):X.cell? ⟨p,0,none⟩=some (.int .i64 3)∧X.cell? ⟨p,2,none⟩=some (.slice (some ⟨gN,0,none⟩) 2 2)∧X.cell? ⟨p,3,none⟩=some (.slice none 0 0)∧X.cell? ⟨p,4,none⟩=some v4∧X.cell? ⟨p,5,none⟩=some v5∧X.cell? ⟨p,6,none⟩=some v6∧X.frozen? ⟨p,6,none⟩=false∧X.cell? ⟨gN,0,none⟩=some (.slice none 0 0)∧X.cell? ⟨gN,1,none⟩=some (.slice none 0 0)∧p < X.heap.size∧gN < X.heap.size :=
 ⟨hcell h.head 0,hcell h.head 2,hcell h.head 3,hcell h.head 4,hcell h.head 5,hcell h.head 6,hfree h.head 6,hcell h.near 0,hcell h.near 1,hlt h.head,hlt h.near⟩
theorem degree_0 (h:Wk X p gN v1 v4 v5 v6 k st) (x:Int) (hx:x=0∨x=1):Calls Tryz.prog 240 #[.pointer (some ⟨p,0,none⟩),.int .i64 x] X λe w'=>e=.returned (.int .i64 0)∧Bel X w':=by
 obtain⟨g5,c5,e5,-⟩:=own_form h.left (by simp)
 subst e5
 have HW:=Hm h
 clear h
 rcases hx with rfl|rfl
 all_goals
  obtain⟨p0,p2,p3,p4,p5,p6,pf,n0,n1,pz,nz⟩:=HW.o.cells
  go_enter Tryz.func240,Tryz.ntmps240
  go_wp2_with fail
  refine(copy_nil _).mono ?_
  rintro e w1 ⟨rfl,hb1⟩
  have hc:(w1.alloc (.cells #[.slice none 0 0] 291)).cell? ⟨w1.heap.size,0,none⟩=some (.slice none 0 0):=hcell (hnew rfl) 0
  have HB1:=Hm hb1
  have p5':=bCell hb1 p5
  have hz1:=hb1.size
  have pz1:p < w1.heap.size:=by omega
  clear hb1
  go_wp2_with fail
  refine(meet_nil w1.heap.size 0 _ hc (.slice (some ⟨g5,0,none⟩) 1 c5) rfl).mono ?_
  rintro e w2 ⟨rfl,hb2⟩
  have hc2:=bCell hb2 hc
  have HB2:=Hm (bT HB1.o (bUA hb2))
  have hz2:=World.block_lt_of_cell? _ _ hc2
  dsimp only at hz2
  clear hb2 hc p5' p0 p2 p3 p4 p5 p6 pf n0 n1 pz nz
  go_wp2_with fail
  refine(len_nil _).mono ?_
  rintro e w3 ⟨rfl,hb3⟩
  have HB3:=Hm (bT HB2.o hb3)
  clear hb3
  go_wp2_with fail
  go_ret
  exact⟨rfl,HB3.o⟩
theorem moving_0 (h:Wk X p gN v1 v4 v5 v6 k st) (x:Int):Calls Tryz.prog 241 #[.pointer (some ⟨p,0,none⟩),.int .i64 x] X λe w'=>e=.returned (.bool false)∧Bel X w':=by
 have HC:=Hm containsE
 obtain⟨p0,p2,p3,p4,p5,p6,pf,n0,n1,pz,nz⟩:=h.cells
 clear h
 go_enter Tryz.func241,Tryz.ntmps241
 go_wp2_with fail
 refine(HC.o _ _).mono ?_
 rintro e w1 ⟨rfl,rfl⟩
 go_wp2_with fail
 go_ret
 exact⟨rfl,bA (bA (bR X) _) _⟩
end
section
variable {X X':World} {p gN k n:Nat} {v1 v4 v5 v6:Value} {st:List Int}
def PushPost (X:World) (p gN:Nat) (v1 v4 v5:Value) (k:Nat) (st:List Int) (r:Value) (e:Ending) (w':World):Prop:=e=.returned r∧Only X w' (λb=>p≤b)∧∃ v6',Wk w' p gN v1 v4 v5 v6' k st
theorem Wk.push (h:Wk X p gN v1 v4 v5 v6 k st) {v6':Value} {st':List Int} (hg:X.grownBy X' v6.ownBlock) (ho:OwnI X' (p+1) v6' st') (hw:v6'.ownBlock=v6.ownBlock∨∀ b,v6'.ownBlock=some b→X.heap.size≤b):Wk (X'.setCell ⟨p,6,none⟩ v6') p gN v1 v4 v5 v6' k st':=by
 have hs:Only X X' (λb=>v6.ownBlock=some b):=Only.grown hg (λg e=>e)
 have hs2:Only X' (X'.setCell ⟨p,6,none⟩ v6') (λb=>b=p):=oC (F:=λb=>b=p) (Only.refl X' _) rfl _ _
 have hl4:=h.stands.lt
 have hl5:=h.left.lt
 have hw':∀ b,v6'.ownBlock=some b→v6.ownBlock=some b∨X.heap.size≤b:=λb hb=>by
  rcases hw with hw|hw
  ·exact .inl (by rw[←hw];exact hb)
  ·exact .inr (hw b hb)
 exact {
  head:=set_at (hs.heap h.head (λe=>by have:=(h.stack.lt _ e).1;omega)) 6 v6'
  near:=hs2.heap (hs.heap h.near (λe=>by have:=(h.stack.lt _ e).1;have:=h.np;omega)) (by have:=h.np;omega)
  np:=h.np
  stands:=own_only (own_only h.stands hs (λb hb e=>h.a46 b hb e)) hs2 (λb hb e=>by have:=(hl4 b hb).1;have:b=p:=e;omega)
  left:=own_only (own_only h.left hs (λb hb e=>h.a56 b hb e)) hs2 (λb hb e=>by have:=(hl5 b hb).1;have:b=p:=e;omega)
  stack:=own_only ho hs2 (λb hb e=>by have:=(ho.lt b hb).1;have:b=p:=e;omega)
  a45:=h.a45
  a46:=λb hb e=>by
   rcases hw' b e with h1|h1
   ·exact h.a46 b hb h1
   ·have:=(hl4 b hb).2;omega
  a56:=λb hb e=>by
   rcases hw' b e with h1|h1
   ·exact h.a56 b hb h1
   ·have:=(hl5 b hb).2;omega
  one1:=h.one1 }
theorem push_any (h:Wk X p gN v1 v4 v5 v6 k st) (hst:st.length≤10) (x:Nat) (hx:x < 2) (hk:k < 4) (hb:bitB k x=true) :
  Calls Tryz.prog 242 #[.pointer (some ⟨p,0,none⟩),.int .i64 x] X (PushPost X p gN v1 v4 v5 (k-2 ^ x) (st++[(x:Int)]) (.tuple #[])):=by
 have HW:=Hm h
 obtain⟨p0,p2,p3,p4,p5,p6,pf,n0,n1,pz,nz⟩:=h.cells
 have HC:=Hm (λ(w:World) (c0:w.cell? ⟨p,5,none⟩=some v5) (ho:OwnU w (p+1) v5 [k])=>cut_one k x hk hx hb p 5 v5 (p+1) w c0 ho)
 have HL:=Hm hst
 obtain⟨A6,c6,e6,-,hl6,-⟩:=own_row h.stack
 subst e6
 generalize hn:st.length=n at *
 have HN:=Hm hn
 clear h hst hx hk hb hl6 hn
 go_enter Tryz.func242,Tryz.ntmps242
 go_wp2_with fail
 refine(HC.o X HW.o.cells.2.2.2.2.1 HW.o.left).mono ?_
 rintro e w1 ⟨rfl,hs1,ho1⟩
 have HW1:=Hm (HW.o.cut hs1 ho1)
 have HO1:=Hm (hs1.weaken (G:=λb=>p≤b) (λb _ e=>by have:=(HW.o.left.lt b e).1;omega))
 clear hs1 ho1 HW p0 p2 p3 p4 p5 p6 pf n0 n1 pz nz
 obtain⟨p0,p2,p3,p4,p5,p6,pf,n0,n1,pz,nz⟩:=HW1.o.cells
 go_wp2_with (
  at_builtin
  refine appW iInt Tryz.underlying29 rfl (.tmp 13) (.tmp 15) rfl (v:=.slice A6 n c6) rfl (by have:=HW1.o.stack;unfold OwnI at this;rw[HN.o] at this;exact this.alloc (.cells #[.int .i64 x] 3)) (show p+1≤(w1.alloc _).heap.size by simp;omega) (q:=w1.heap.size) rfl (row_new w1 [.int .i64 x] 3 (0,0)) rfl (by simp[Value.oneCell']) (by have:=HL.o;omega) ?_
  intro v' w2 ho2 hg2 hw2
  obtain⟨g2,c2,e2,hg2'⟩:=own_form ho2 (by omega)
  subst e2
  have HG:=Hm (grownBy_trans (grownBy_below (row:=(Value.slice A6 n c6).ownBlock) (bA (bR w1) (.cells #[.int .i64 x] 3))) hg2)
  have HP:=Hm (HW1.o.push HG.o (v6':=.slice (some ⟨g2,0,none⟩) (n+1) c2) (st':=st++[(x:Int)]) (by unfold OwnI;simpa [HN.o] using ho2) (by
   rcases hw2 with hw2|hw2
   ·exact .inl hw2
   ·exact .inr (λb hb=>by rw[hw2] at hb;cases hb;simp)))
  have HO:=Hm ((HO1.o.trans (Only.grown (F:=λb=>p≤b) HG.o (λg e=>by have:=(HW1.o.stack.lt g e).1;omega)) (λb _ e=>e)))
  have hgz:=hlt HP.o.head
  have hz2:=HG.o.size
  have hq:w2.frozen? ⟨p,6,none⟩=false:=by
   have h1:=HG.o.block p pz (λe=>by have:=(HW1.o.stack.lt p e.symm).1;omega)
   unfold World.frozen?
   rw[h1,HW1.o.head]
   simp
  have hq6:w2.cell? ⟨p,6,none⟩=some (.slice A6 n c6):=by
   rw[cell_of_heap (a:=⟨p,6,none⟩) (HG.o.block p pz (λe=>by have:=(HW1.o.stack.lt p e.symm).1;omega))]
   exact p6
  have hpz2:p < w2.heap.size:=by omega
  clear ho2 hg2 hw2 p0 p2 p3 p4 p5 p6 pf n0 n1 nz hgz)
 go_end0
 exact⟨rfl,oC HO.o (Nat.le_refl p) _ _,_,HP.o⟩
end
section
variable {X X':World} {p gN k n:Nat} {v1 v4 v5 v6:Value} {st:List Int}
theorem simplify_3 (h:Wk X p gN v1 v4 v5 v6 3 st) (ht:TabOk X) (hst:st.length≤10):Calls Tryz.prog 216 #[.pointer (some ⟨p,0,none⟩)] X (PushPost X p gN v1 v4 v5 2 (st++[0]) (.bool true)):=by
 have HW:=Hm h
 have HL:=Hm hst
 obtain⟨g5,c5,e5,-⟩:=own_form h.left (by simp)
 subst e5
 obtain⟨p0,p2,p3,p4,p5,p6,pf,n0,n1,pz,nz⟩:=h.cells
 have HT:=Hm ht
 clear h ht hst
 go_enter Tryz.func216,Tryz.ntmps216
 go_wp2_with fail
 refine(all_3 _ _ X HT.o HW.o.left).mono ?_
 rintro e w1 ⟨hb1,v',rfl,ho⟩
 obtain⟨gu,cu,rfl,hgu,hguz,hcu⟩:=ints_at ho (by simp)
 have u0:=hcu 0 (by simp)
 simp only[List.getElem_cons_zero] at u0
 have HW1:=Hm (HW.o.bel hb1)
 have HO1:=Hm hb1
 clear hb1 ho hcu HW p0 p2 p3 p4 p5 p6 pf n0 n1 pz nz
 obtain⟨p0,p2,p3,p4,p5,p6,pf,n0,n1,pz,nz⟩:=HW1.o.cells
 go_wp2_with fail
 refine wp_loop_rounds 1 ?_
 rw[rounds_succ]
 go_wp2_with fail
 refine rgn [.rd 0,.rd 1,.rd 3,.rd 4,.rd 5,.rd 6,.hv 2 [3,4,5,6],.rd 7,.rd 8,.rd 9,.rd 10,.hv 11 [],.rd 12,.rd 13] (n:=33) rfl ?_
 iterate 6 (refine line_rd rfl (λK hK=>?_);go_simp;refine hK _ ?_;clear hK K)
 refine line_hv rfl ?_
 go_wp2_with fail
 refine(degree_0 (HW1.o.bel (bD (bR _))) 0 (by simp)).mono ?_
 rintro e w2 ⟨rfl,hb2⟩
 have hb2:=bU hb2
 have HW2:=Hm (HW1.o.bel hb2)
 have HO2:=Hm (bT HO1.o hb2)
 clear hb2 HW1 HO1 p0 p2 p3 p4 p5 p6 pf n0 n1 pz nz
 obtain⟨p0,p2,p3,p4,p5,p6,pf,n0,n1,pz,nz⟩:=HW2.o.cells
 go_wp2_with fail
 refine⟨?_,?_⟩
 ·simp only[Again,slotOf]
  go_simp
 iterate 4 (refine line_rd rfl (λK hK=>?_);go_simp;refine hK _ ?_;clear hK K)
 refine line_hv rfl ?_
 go_wp2_with fail
 refine(moving_0 HW2.o 0).mono ?_
 rintro e w3 ⟨rfl,hb3⟩
 have HW3:=Hm (HW2.o.bel hb3)
 have HO3:=Hm (bT HO2.o hb3)
 clear hb3 HW2 HO2 p0 p2 p3 p4 p5 p6 pf n0 n1 pz nz
 go_wp2_with fail
 refine⟨?_,?_⟩
 ·exact trivial
 iterate 2 (refine line_rd rfl (λK hK=>?_);go_simp;refine hK _ ?_;clear hK K)
 unfold Line
 go_wp2_with fail
 refine(push_any HW3.o HL.o 0 (by omega) (by omega) rfl).mono ?_
 unfold PushPost
 rintro e w4 ⟨rfl,hs4,v6',h4⟩
 have HW4:=Hm h4
 have HO4:=Hm (Only.belLeft HO3.o hs4)
 clear hs4 h4
 go_wp2_with fail
 go_ret
 exact⟨rfl,HO4.o,v6',HW4.o⟩
theorem simplify_2 (h:Wk X p gN v1 v4 v5 v6 2 st) (ht:TabOk X) (hst:st.length≤10):Calls Tryz.prog 216 #[.pointer (some ⟨p,0,none⟩)] X (PushPost X p gN v1 v4 v5 0 (st++[1]) (.bool true)):=by
 have HW:=Hm h
 have HL:=Hm hst
 obtain⟨g5,c5,e5,-⟩:=own_form h.left (by simp)
 subst e5
 obtain⟨p0,p2,p3,p4,p5,p6,pf,n0,n1,pz,nz⟩:=h.cells
 have HT:=Hm ht
 clear h ht hst
 go_enter Tryz.func216,Tryz.ntmps216
 go_wp2_with fail
 refine(all_2 _ _ X HT.o HW.o.left).mono ?_
 rintro e w1 ⟨hb1,v',rfl,ho⟩
 obtain⟨gu,cu,rfl,hgu,hguz,hcu⟩:=ints_at ho (by simp)
 have u0:=hcu 0 (by simp)
 simp only[List.getElem_cons_zero] at u0
 have HW1:=Hm (HW.o.bel hb1)
 have HO1:=Hm hb1
 clear hb1 ho hcu HW p0 p2 p3 p4 p5 p6 pf n0 n1 pz nz
 obtain⟨p0,p2,p3,p4,p5,p6,pf,n0,n1,pz,nz⟩:=HW1.o.cells
 go_wp2_with fail
 refine wp_loop_rounds 1 ?_
 rw[rounds_succ]
 go_wp2_with fail
 refine rgn [.rd 0,.rd 1,.rd 3,.rd 4,.rd 5,.rd 6,.hv 2 [3,4,5,6],.rd 7,.rd 8,.rd 9,.rd 10,.hv 11 [],.rd 12,.rd 13] (n:=33) rfl ?_
 iterate 6 (refine line_rd rfl (λK hK=>?_);go_simp;refine hK _ ?_;clear hK K)
 refine line_hv rfl ?_
 go_wp2_with fail
 refine(degree_0 (HW1.o.bel (bD (bR _))) 1 (by simp)).mono ?_
 rintro e w2 ⟨rfl,hb2⟩
 have hb2:=bU hb2
 have HW2:=Hm (HW1.o.bel hb2)
 have HO2:=Hm (bT HO1.o hb2)
 clear hb2 HW1 HO1 p0 p2 p3 p4 p5 p6 pf n0 n1 pz nz
 obtain⟨p0,p2,p3,p4,p5,p6,pf,n0,n1,pz,nz⟩:=HW2.o.cells
 go_wp2_with fail
 refine⟨?_,?_⟩
 ·simp only[Again,slotOf]
  go_simp
 iterate 4 (refine line_rd rfl (λK hK=>?_);go_simp;refine hK _ ?_;clear hK K)
 refine line_hv rfl ?_
 go_wp2_with fail
 refine(moving_0 HW2.o 1).mono ?_
 rintro e w3 ⟨rfl,hb3⟩
 have HW3:=Hm (HW2.o.bel hb3)
 have HO3:=Hm (bT HO2.o hb3)
 clear hb3 HW2 HO2 p0 p2 p3 p4 p5 p6 pf n0 n1 pz nz
 go_wp2_with fail
 refine⟨?_,?_⟩
 ·exact trivial
 iterate 2 (refine line_rd rfl (λK hK=>?_);go_simp;refine hK _ ?_;clear hK K)
 unfold Line
 go_wp2_with fail
 refine(push_any HW3.o HL.o 1 (by omega) (by omega) rfl).mono ?_
 unfold PushPost
 rintro e w4 ⟨rfl,hs4,v6',h4⟩
 have HW4:=Hm h4
 have HO4:=Hm (Only.belLeft HO3.o hs4)
 clear hs4 h4
 go_wp2_with fail
 go_ret
 exact⟨rfl,HO4.o,v6',HW4.o⟩
theorem simplify_0 (h:Wk X p gN v1 v4 v5 v6 0 st):Calls Tryz.prog 216 #[.pointer (some ⟨p,0,none⟩)] X λe w'=>e=.returned (.bool false)∧Bel X w':=by
 have HW:=Hm h
 obtain⟨g5,c5,e5,-⟩:=own_form h.left (by simp)
 subst e5
 obtain⟨p0,p2,p3,p4,p5,p6,pf,n0,n1,pz,nz⟩:=h.cells
 clear h
 go_enter Tryz.func216,Tryz.ntmps216
 go_wp2_with fail
 refine(all_zero _ _ X HW.o.left).mono ?_
 rintro e w1 ⟨rfl,hb1⟩
 have HB:=Hm hb1
 clear hb1
 go_wp2_with fail
 refine wp_loop_rounds 1 ?_
 rw[rounds_succ]
 go_wp2_with fail
 go_ret
 exact⟨rfl,HB.o⟩
theorem coalesce_0 (h:Wk X p gN v1 v4 v5 v6 k st):Calls Tryz.prog 217 #[.pointer (some ⟨p,0,none⟩)] X λe w'=>e=.returned (.bool false)∧X=w':=by
 obtain⟨p0,p2,p3,p4,p5,p6,pf,n0,n1,pz,nz⟩:=h.cells
 clear h
 go_enter Tryz.func217,Tryz.ntmps217
 go_wp2_with fail
 refine wp_loop_rounds 1 ?_
 rw[rounds_succ]
 go_wp2_with fail
 go_ret
 exact⟨rfl,rfl⟩
theorem freeze_0 (h:Wk X p gN v1 v4 v5 v6 0 st):Calls Tryz.prog 218 #[.pointer (some ⟨p,0,none⟩)] X λe w'=>e=.returned (.bool false)∧Bel X w':=by
 have HW:=Hm h
 obtain⟨g5,c5,e5,-⟩:=own_form h.left (by simp)
 subst e5
 obtain⟨p0,p2,p3,p4,p5,p6,pf,n0,n1,pz,nz⟩:=h.cells
 clear h
 go_enter Tryz.func218,Tryz.ntmps218
 go_wp2_with fail
 refine(all_zero _ _ _ (own_below HW.o.left (bA (bR _) _))).mono ?_
 rintro e w1 ⟨rfl,hb1⟩
 have HB:=Hm (bUA hb1)
 clear hb1
 go_wp2_with fail
 refine wp_loop_rounds 1 ?_
 rw[rounds_succ]
 go_wp2_with fail
 go_ret
 exact⟨rfl,HB.o⟩
theorem spill_0 (h:Wk X p gN v1 v4 v5 v6 0 st):Calls Tryz.prog 219 #[.pointer (some ⟨p,0,none⟩)] X λe w'=>e=.returned (.bool false)∧Bel X w':=by
 have HW:=Hm h
 obtain⟨g5,c5,e5,-⟩:=own_form h.left (by simp)
 subst e5
 obtain⟨p0,p2,p3,p4,p5,p6,pf,n0,n1,pz,nz⟩:=h.cells
 clear h
 go_enter Tryz.func219,Tryz.ntmps219
 go_wp2_with fail
 refine(all_zero _ _ _ (own_below HW.o.left (bA (bA (bR _) _) _))).mono ?_
 rintro e w1 ⟨rfl,hb1⟩
 have HB:=Hm (bUA (bUA hb1))
 have hh:w1.heap[X.heap.size+1]?=some (.cells #[.int .i64 (-1)] 3 (0,0)):=bHeap hb1 (hnew (by simp))
 have hc:w1.cell? ⟨X.heap.size+1,0,none⟩=some (.int .i64 (-1)):=hcell hh 0
 have hz:=hlt hh
 clear hh
 clear hb1
 go_wp2_with fail
 refine wp_loop_rounds 1 ?_
 rw[rounds_succ]
 go_wp2_with fail
 go_ret
 exact⟨rfl,HB.o⟩
end
section
variable {X X':World} {p gN k n:Nat} {v1 v4 v5 v6:Value} {st:List Int}
theorem Wk.only (h:Wk X p gN v1 v4 v5 v6 k st) {F:Nat→Prop} (hs:Only X X' F) (hF:∀ b,v4.ownBlock=some b∨v5.ownBlock=some b∨v6.ownBlock=some b∨b=p∨b=gN→¬F b):Wk X' p gN v1 v4 v5 v6 k st :=
 { h with head:=hs.heap h.head (hF p (by simp)),near:=hs.heap h.near (hF gN (by simp)),stands:=own_only h.stands hs (λb hb=>hF b (.inl hb)),left:=own_only h.left hs (λb hb=>hF b (.inr (.inl hb))),stack:=own_only h.stack hs (λb hb=>hF b (.inr (.inr (.inl hb)))) }
theorem of_any (h:Wk X p gN v1 v4 v5 v6 k st) (x:Nat) (hx:x < 2):Calls Tryz.prog 243 #[.pointer (some ⟨p,0,none⟩),.int .i64 x] X λe w'=>e=.returned (.int .i64 x)∧X=w':=by
 obtain⟨p0,p2,p3,p4,p5,p6,pf,n0,n1,pz,nz⟩:=h.cells
 obtain⟨gu,cu,rfl,hgu,hguz,hcu⟩:=ints_at h.stands (by simp)
 have u0:=hcu 0 (by simp)
 have u1:=hcu 1 (by simp)
 simp only[List.getElem_cons_zero,List.getElem_cons_succ] at u0 u1
 clear h hcu
 have:x=0∨x=1:=by omega
 rcases this with rfl|rfl
 all_goals
  clear hx
  go_enter Tryz.func243,Tryz.ntmps243
  go_wp2_with fail
  refine wp_loop_rounds 1 ?_
  rw[rounds_succ]
  go_wp2_with fail
  go_ret
  exact⟨rfl,rfl⟩
theorem pick_any (h:Wk X p gN v1 v4 v5 v6 0 [0,1]):Calls Tryz.prog 220 #[.pointer (some ⟨p,0,none⟩)] X λe w'=>Bel X w'∧∃ g,e=.returned (.slice (some ⟨g,0,none⟩) 2 2)∧X.heap.size≤g∧w'.heap[g]?=some (.cells #[.int .i64 0,.int .i64 0] 3 (0,0)):=by
 have HW:=Hm h
 obtain⟨p0,p2,p3,p4,p5,p6,pf,n0,n1,pz,nz⟩:=h.cells
 obtain⟨gu,cu,e4,-⟩:=own_form h.stands (by simp)
 obtain⟨gs,cs,e6,-⟩:=own_form h.stack (by simp)
 subst e4 e6
 have k1:∀ w,(Instr.makeSlice 29 (.int .i64 2) (.int .i64 2)).run Tryz.prog w=.ok (.slice (some ⟨w.heap.size,0,none⟩) 2 2) (w.alloc (.cells #[.int .i64 0,.int .i64 0] 3)):=λ_=>by kernel_rfl
 clear h
 go_enter Tryz.func220,Tryz.ntmps220
 go_wp2_with fail
 refine wp_loop_rounds 3 ?_
 rw[rounds_succ]
 go_wp2_with fail
 rw[rounds_succ]
 go_wp2_with fail
 rw[rounds_succ]
 go_wp2_with fail
 obtain⟨g,hg⟩:∃ g,g=X.heap.size:=⟨_,rfl⟩
 have HG0:Hd ((X.alloc (.cells #[.int .i64 (-1),.int .i64 (-1)] 3)).heap[g]?=some (.cells #[.int .i64 (-1),.int .i64 (-1)] 3 (0,0))):=⟨hnew hg⟩
 have HW0:=Hm (HW.o.bel (bA (bR X) (.cells #[.int .i64 (-1),.int .i64 (-1)] 3)))
 have HB0:=Hm (bA (bR X) (.cells #[.int .i64 (-1),.int .i64 (-1)] 3))
 have HL:Hd (∀ b,(Value.slice (some ⟨gu,0,none⟩) 2 cu).ownBlock=some b∨v5.ownBlock=some b∨(Value.slice (some ⟨gs,0,none⟩) 2 cs).ownBlock=some b∨b=p∨b=gN→b < g):=⟨λb hb=>by
  rw[hg]
  rcases hb with hb|hb|hb|hb|hb
  ·exact(HW.o.stands.lt b hb).2
  ·exact(HW.o.left.lt b hb).2
  ·exact(HW.o.stack.lt b hb).2
  ·rw[hb];exact pz
  ·rw[hb];exact nz⟩
 have HGX:=Hm hg
 rw[←hg]
 clear HW p0 p2 p3 p4 p5 p6 pf n0 n1 pz nz hg
 generalize X.alloc (.cells #[.int .i64 (-1),.int .i64 (-1)] 3)=w0 at *
 refine wp_loop_rounds 3 ?_
 rw[rounds_succ]
 obtain⟨p0,p2,p3,p4,p5,p6,pf,n0,n1,pz,nz⟩:=HW0.o.cells
 obtain⟨gs',cs',es,-,-,hcs⟩:=ints_at HW0.o.stack (by simp)
 cases es
 have s0:=hcs 1 (by simp)
 simp only[List.getElem_cons_zero,List.getElem_cons_succ] at s0
 clear hcs
 go_wp2_with fail
 go_step3
 go_wp2_with fail
 go_step3
 go_wp2_with fail
 refine wp_loop_rounds 1 ?_
 rw[rounds_succ]
 go_wp2_with fail
 refine(all_nil _).mono ?_
 rintro e w1 ⟨rfl,hb⟩
 have HW1:=Hm (HW0.o.bel hb)
 have HG1:=Hm (bHeap hb HG0.o)
 have HB1:=Hm (bT HB0.o hb)
 have y0:=hcell HG1.o 1
 have yf:=hfree HG1.o 1
 have yz:=hlt HG1.o
 simp at y0
 clear hb HW0 HG0 HB0 p0 p2 p3 p4 p5 p6 pf n0 n1 pz nz s0
 go_wp2_with fail
 refine wp_loop_rounds 1 ?_
 rw[rounds_succ]
 go_wp2_with fail
 have hO:Only w1 (w1.setCell ⟨g,1,none⟩ (.int .i64 0)) (λb=>b=g):=oC (F:=λb=>b=g) (Only.refl _ _) rfl _ _
 have HW2:=Hm (HW1.o.only hO (λb hb e=>by have:=HL.o b hb;have:b=g:=e;omega))
 have HG2:Hd ((w1.setCell ⟨g,1,none⟩ (.int .i64 0)).heap[g]?=some (.cells #[.int .i64 (-1),.int .i64 0] 3 (0,0))):=⟨set_at (cs:=[.int .i64 (-1),.int .i64 (-1)]) HG1.o 1 _⟩
 have HB2:=Hm (bO HB1.o hO (λb e=>by have:b=g:=e;have:=HGX.o;omega))
 clear hO HW1 HG1 HB1 y0 yf yz
 generalize w1.setCell ⟨g,1,none⟩ (.int .i64 0)=w2 at *
 rw[Exit.noGoto_normal]
 go_wp2_with fail
 rw[rounds_succ]
 obtain⟨p0,p2,p3,p4,p5,p6,pf,n0,n1,pz,nz⟩:=HW2.o.cells
 obtain⟨gs',cs',es,-,-,hcs⟩:=ints_at HW2.o.stack (by simp)
 cases es
 have s0:=hcs 0 (by simp)
 simp only[List.getElem_cons_zero,List.getElem_cons_succ] at s0
 clear hcs
 go_wp2_with fail
 go_step3
 go_wp2_with fail
 go_step3
 go_wp2_with fail
 refine wp_loop_rounds 1 ?_
 rw[rounds_succ]
 go_wp2_with fail
 refine(all_nil _).mono ?_
 rintro e w3 ⟨rfl,hb⟩
 have HW3:=Hm (HW2.o.bel hb)
 have HG3:=Hm (bHeap hb HG2.o)
 have HB3:=Hm (bT HB2.o hb)
 have y0:=hcell HG3.o 0
 have yf:=hfree HG3.o 0
 have yz:=hlt HG3.o
 simp at y0
 clear hb HW2 HG2 HB2 p0 p2 p3 p4 p5 p6 pf n0 n1 pz nz s0
 go_wp2_with fail
 refine wp_loop_rounds 1 ?_
 rw[rounds_succ]
 go_wp2_with fail
 have hO:Only w3 (w3.setCell ⟨g,0,none⟩ (.int .i64 0)) (λb=>b=g):=oC (F:=λb=>b=g) (Only.refl _ _) rfl _ _
 have HW4:=Hm (HW3.o.only hO (λb hb e=>by have:=HL.o b hb;have:b=g:=e;omega))
 have HG4:Hd ((w3.setCell ⟨g,0,none⟩ (.int .i64 0)).heap[g]?=some (.cells #[.int .i64 0,.int .i64 0] 3 (0,0))):=⟨set_at (cs:=[.int .i64 (-1),.int .i64 0]) HG3.o 0 _⟩
 have HB4:=Hm (bO HB3.o hO (λb e=>by have:b=g:=e;have:=HGX.o;omega))
 clear hO HW3 HG3 HB3 y0 yf yz
 generalize w3.setCell ⟨g,0,none⟩ (.int .i64 0)=w4 at *
 rw[Exit.noGoto_normal]
 go_wp2_with fail
 rw[rounds_succ]
 have y0:=hcell HG4.o 0
 have y1:=hcell HG4.o 1
 have yz:=hlt HG4.o
 simp at y0 y1
 go_wp2_with fail
 refine wp_loop_rounds 3 ?_
 rw[rounds_succ]
 go_wp2_with fail
 refine(of_any (HW4.o.bel (bA (bR _) _)) 0 (by omega)).mono ?_
 rintro e w5 ⟨rfl,rfl⟩
 go_wp2_with fail
 rw[rounds_succ]
 go_wp2_with fail
 refine(of_any (HW4.o.bel (bA (bR _) _)) 1 (by omega)).mono ?_
 rintro e w5 ⟨rfl,rfl⟩
 go_wp2_with fail
 rw[rounds_succ]
 go_wp2_with fail
 go_ret
 exact⟨bA HB4.o _,_,rfl,HB4.o.size,hnew rfl⟩
end
theorem cloneE (w:World):Calls Tryz.prog 215 #[.slice none 0 0] w λe w'=>e=.returned (.slice none 0 0)∧w=w':=by
 have he:=λ(w:World)=>Lib.run_eql_slice_nil (P:=Tryz.prog) w 284 311 none 0 0 0 0 Tryz.underlying284
 go_enter Tryz.func215,Tryz.ntmps215
 go_wp2_with fail
 go_ret
 exact⟨rfl,rfl⟩
theorem colour_any (A:Option Addr) (c:Nat) (w:World) (ht:TabOk w):Calls Tryz.prog 186 #[.agg #[.int .i64 2,.slice none 0 0,.slice none 0 0],.int .i64 3,.slice A 2 c] w λe w'=>Bel w w'∧∃ g,e=.returned (.tuple #[.slice (some ⟨g,0,none⟩) 2 2,.int .i64 0])∧w.heap.size≤g∧w'.heap[g]?=some (.cells #[.int .i64 0,.int .i64 0] 3 (0,0)):=by
 have HT:=Hm ht
 clear ht
 go_enter Tryz.func186,Tryz.ntmps186
 go_wp2_with fail
 refine(gcheckE _).mono ?_
 rintro e w1 ⟨rfl,hb1⟩
 have hq:w1.heap[w.heap.size]?=some (.cells #[.int .i64 2,.slice none 0 0,.slice none 0 0] 286 (0,0)):=bHeap hb1 (hnew rfl)
 have HB1:=Hm (bUA hb1)
 have q0:=hcell hq 0
 have q1:=hcell hq 1
 have q2:=hcell hq 2
 have qz:=hlt hq
 have HQ:=Hm hq
 simp at q0 q1 q2
 clear hb1 hq
 go_wp2_with fail
 refine rgn [.rd 0,.rd 1,.rd 2,.rd 4,.rd 5,.hv 3 [0,1,4,5],.hv 6 [0,1],.rd 7,.hv 8 [],.rd 9] (n:=72) rfl ?_
 iterate 5 (refine line_rd rfl (λK hK=>?_);go_simp;refine hK _ ?_;clear hK K)
 refine line_hv rfl ?_
 go_wp2_with fail
 refine(nearE _).mono ?_
 rintro e w2 ⟨hb2,gN,rfl,hgN,hN⟩
 have HB2:=Hm (bT HB1.o (bU hb2))
 have HQ2:=Hm (bHeap (bU hb2) HQ.o)
 have HN2:=Hm hN
 have hz2:=(bU hb2).size
 simp only[World.size_drew] at hgN
 clear hb2 hN HB1 HQ q0 q1 q2 qz
 have q0:=hcell HQ2.o 0
 have q1:=hcell HQ2.o 1
 have q2:=hcell HQ2.o 2
 have qz:=hlt HQ2.o
 have hNz:=hlt HN2.o
 simp at q0 q1 q2
 go_wp2_with fail
 refine⟨?_,?_⟩
 ·simp only[Again,slotOf]
  go_simp
 refine line_hv rfl ?_
 go_wp2_with fail
 refine(cloneE _).mono ?_
 rintro e w3 ⟨rfl,rfl⟩
 go_wp2_with fail
 refine⟨?_,?_⟩
 ·simp only[Again,slotOf]
  go_simp
 iterate 1 (refine line_rd rfl (λK hK=>?_);go_simp;refine hK _ ?_;clear hK K)
 refine line_hv rfl ?_
 go_wp2_with fail
 refine⟨?_,?_⟩
 ·exact trivial
 iterate 1 (refine line_rd rfl (λK hK=>?_);go_simp;refine hK _ ?_;clear hK K)
 unfold Line
 obtain⟨p,hp⟩:∃ p,p=w2.heap.size:=⟨_,rfl⟩
 rw[←hp]
 have hNp:gN < p:=by omega
 have hwp:w.heap.size≤p:=by have:=HB2.o.size;omega
 have HP0:Hd ((w2.alloc (.cells #[.int .i64 3,.slice A 2 c,.slice (some ⟨gN,0,none⟩) 2 2,.slice none 0 0,.slice none 0 0,.slice none 0 0,.slice none 0 0] 348)).heap[p]?=some (.cells ([.int .i64 3,.slice A 2 c,.slice (some ⟨gN,0,none⟩) 2 2,.slice none 0 0,.slice none 0 0,.slice none 0 0,.slice none 0 0]:List Value).toArray 348 (0,0))):=⟨hnew hp⟩
 have hbA:Bel w2 (w2.alloc (.cells #[.int .i64 3,.slice A 2 c,.slice (some ⟨gN,0,none⟩) 2 2,.slice none 0 0,.slice none 0 0,.slice none 0 0,.slice none 0 0] 348)):=bA (bR _) _
 have HN0:=Hm (bHeap hbA HN2.o)
 have HQ0:=Hm (bHeap hbA HQ2.o)
 have HB0:=Hm (bT HB2.o hbA)
 have hqp:w.heap.size < p:=by have:=hlt HQ2.o;omega
 clear hbA hp HB2 HQ2 HN2 q0 q1 q2 qz hNz hz2 hgN
 generalize w2.alloc (.cells #[.int .i64 3,.slice A 2 c,.slice (some ⟨gN,0,none⟩) 2 2,.slice none 0 0,.slice none 0 0,.slice none 0 0,.slice none 0 0] 348)=y0 at *
 have q0:=hcell HQ0.o 0
 have qz:=hlt HQ0.o
 simp at q0
 go_wp2_with fail
 refine wp_loop_rounds 3 ?_
 rw[rounds_succ]
 have c4:y0.cell? ⟨p,4,none⟩=some (.slice none 0 0):=hcell HP0.o 4
 have pz:=hlt HP0.o
 go_wp2_with (
  at_builtin
  refine app0 iInt Tryz.underlying29 rfl (.tmp 44) (.tmp 46) rfl rfl (own_none _ (p+1) 3 1 0 rfl) (show p+1≤(y0.alloc _).heap.size by simp;omega) (A:=some ⟨y0.heap.size,0,none⟩) (m:=1) (c:=1) rfl (row_new y0 [.int .i64 0] 3 (0,0)) rfl (by omega) ?_
  intro s4 z1 hb ho
  obtain⟨g4,k4,e4,hg4⟩:=own_form ho (by omega)
  subst e4
  have HB1:=Hm (bUA hb)
  have HO1:=Hm ho
  have hpz1:p < z1.heap.size:=by have:=(bUA hb).size;omega
  have c4':=bCell (bUA hb) c4
  have f4':=bFree (bUA hb) c4 (hfree HP0.o 4)
  clear hb ho)
 have HP1:Hd ((z1.setCell ⟨p,4,none⟩ (.slice (some ⟨g4,0,none⟩) 1 k4)).heap[p]?=some (.cells ([.int .i64 3,.slice A 2 c,.slice (some ⟨gN,0,none⟩) 2 2,.slice none 0 0,.slice (some ⟨g4,0,none⟩) 1 k4,.slice none 0 0,.slice none 0 0]:List Value).toArray 348 (0,0))):=⟨set_at (cs:=[.int .i64 3,.slice A 2 c,.slice (some ⟨gN,0,none⟩) 2 2,.slice none 0 0,.slice none 0 0,.slice none 0 0,.slice none 0 0]) (bHeap HB1.o HP0.o) 4 _⟩
 have hO:Only z1 (z1.setCell ⟨p,4,none⟩ (.slice (some ⟨g4,0,none⟩) 1 k4)) (λb=>b=p):=oC (F:=λb=>b=p) (Only.refl _ _) rfl _ _
 have HN1:=Hm (hO.heap (bHeap HB1.o HN0.o) (λe=>by have:gN=p:=e;omega))
 have HQ1:=Hm (hO.heap (bHeap HB1.o HQ0.o) (λe=>by have:w.heap.size=p:=e;omega))
 have HS1:Hd (OwnI (z1.setCell ⟨p,4,none⟩ (.slice (some ⟨g4,0,none⟩) 1 k4)) (p+1) (.slice (some ⟨g4,0,none⟩) 1 k4) [0]):=⟨own_only HO1.o hO (λb hb e=>by cases hb;have:g4=p:=e;omega)⟩
 have HBy1:=Hm (bO (bT HB0.o HB1.o) hO (λb e=>by have:b=p:=e;omega))
 clear hO HB1 HO1 HP0 HN0 HQ0 HB0 q0 qz c4 c4' f4' pz
 generalize z1.setCell ⟨p,4,none⟩ (.slice (some ⟨g4,0,none⟩) 1 k4)=z2 at *
 refine(put_nil 0 (by omega) p 5 _ 348 z2 HP1.o rfl).mono ?_
 rintro e z3 ⟨rfl,v5,hs,hp3,ho3⟩
 simp only[List.set_cons_zero,List.set_cons_succ] at hp3
 have HP3:=Hm hp3
 have hg4z:g4 < z2.heap.size:=(HS1.o.lt g4 rfl).2
 have HN3:=Hm (hs.heap HN1.o (λe=>by have:gN=p:=e;omega))
 have HQ3:=Hm (hs.heap HQ1.o (λe=>by have:w.heap.size=p:=e;omega))
 have HS3:=Hm (own_only HS1.o hs (λb hb e=>by cases hb;have:g4=p:=e;omega))
 have HB3:=Hm (bO HBy1.o hs (λb e=>by have:b=p:=e;omega))
 have HL3:=Hm ho3
 have hpz2:=hlt HP1.o
 obtain⟨g5,k5,e5,hg5⟩:=own_form ho3 (by simp)
 subst e5
 clear hs hp3 ho3 HP1 HN1 HQ1 HS1 HBy1
 have q0:=hcell HQ3.o 0
 have qz:=hlt HQ3.o
 simp at q0
 go_wp2_with fail
 rw[rounds_succ]
 have c4:z3.cell? ⟨p,4,none⟩=some (.slice (some ⟨g4,0,none⟩) 1 k4):=hcell HP3.o 4
 have pz:=hlt HP3.o
 have hz23:z2.heap.size≤z3.heap.size:=by
  have:=(HL3.o.lt g5 rfl).2
  have:z2.heap.size≤g5:=hg5
  omega
 go_wp2_with (
  at_builtin
  refine appW iInt Tryz.underlying29 rfl (.tmp 44) (.tmp 46) rfl (v:=.slice (some ⟨g4,0,none⟩) 1 k4) rfl (World.ownsRow.alloc HS3.o _) (show p+1≤(z3.alloc _).heap.size by simp;omega) (q:=z3.heap.size) rfl (row_new z3 [.int .i64 1] 3 (0,0)) rfl (by simp[Value.oneCell']) (by simp) ?_
  intro s4 z4 ho hg hw
  obtain⟨g6,k6,e6,hg6⟩:=own_form ho (by omega)
  subst e6
  have HG4:=Hm (Only.grown (F:=λb=>b=g4) (grownBy_trans (grownBy_below (row:=some g4) (bA (bR z3) (.cells #[.int .i64 1] 3))) hg) (λg e=>by cases e;rfl))
  have HO4:Hd (OwnI z4 (p+1) (.slice (some ⟨g6,0,none⟩) 2 k6) [0,1]):=⟨ho⟩
  have H45:Hd (g6≠g5):=⟨λe=>by
   rcases hw with hw|hw
   ·cases hw;omega
   ·simp[Value.ownBlock] at hw
    have:=(HL3.o.lt g5 rfl).2
    omega⟩
  have hpz4:p < z4.heap.size:=by have:=HG4.o.size;omega
  have hpg4:p < g4:=by omega
  have c4':=only_cell HG4.o c4 (by omega)
  have f4':z4.frozen? ⟨p,4,none⟩=false:=hfree (HG4.o.heap HP3.o (by omega)) 4
  clear ho hg hw)
 have hpg4:p < g4:=by omega
 have HP5:Hd ((z4.setCell ⟨p,4,none⟩ (.slice (some ⟨g6,0,none⟩) 2 k6)).heap[p]?=some (.cells ([.int .i64 3,.slice A 2 c,.slice (some ⟨gN,0,none⟩) 2 2,.slice none 0 0,.slice (some ⟨g6,0,none⟩) 2 k6,.slice (some ⟨g5,0,none⟩) 1 k5,.slice none 0 0]:List Value).toArray 348 (0,0))):=⟨set_at (cs:=[.int .i64 3,.slice A 2 c,.slice (some ⟨gN,0,none⟩) 2 2,.slice none 0 0,.slice (some ⟨g4,0,none⟩) 1 k4,.slice (some ⟨g5,0,none⟩) 1 k5,.slice none 0 0]) (HG4.o.heap HP3.o (λe=>by have:p=g4:=e;omega)) 4 _⟩
 have hO:Only z4 (z4.setCell ⟨p,4,none⟩ (.slice (some ⟨g6,0,none⟩) 2 k6)) (λb=>b=p):=oC (F:=λb=>b=p) (Only.refl _ _) rfl _ _
 have HN5:=Hm (hO.heap (HG4.o.heap HN3.o (λe=>by have:gN=g4:=e;omega)) (λe=>by have:gN=p:=e;omega))
 have HQ5:=Hm (hO.heap (HG4.o.heap HQ3.o (λe=>by have:w.heap.size=g4:=e;omega)) (λe=>by have:w.heap.size=p:=e;omega))
 have HS5:=Hm (own_only HO4.o hO (λb hb e=>by cases hb;have:g6=p:=e;have:=(HO4.o.lt g6 rfl).1;omega))
 have HB5:=Hm (bO (bO HB3.o HG4.o (λb e=>by have:b=g4:=e;omega)) hO (λb e=>by have:b=p:=e;omega))
 have HL5:Hd (OwnU (z4.setCell ⟨p,4,none⟩ (.slice (some ⟨g6,0,none⟩) 2 k6)) (p+1) (.slice (some ⟨g5,0,none⟩) 1 k5) [2 ^ 0]):=⟨own_only (own_only (own_base HL3.o (by omega)) HG4.o (λb hb e=>by cases hb;have:g5=g4:=e;have:z2.heap.size≤g5:=hg5;omega)) hO (λb hb e=>by cases hb;have:g5=p:=e;have:z2.heap.size≤g5:=hg5;omega)⟩
 have HK5:Hd (Wk (z4.setCell ⟨p,4,none⟩ (.slice (some ⟨g6,0,none⟩) 2 k6)) p gN (.slice A 2 c) (.slice (some ⟨g6,0,none⟩) 2 k6) (.slice (some ⟨g5,0,none⟩) 1 k5) (.slice none 0 0) 1 []):=⟨⟨HP5.o,HN5.o,hNp,HS5.o,HL5.o,own_none _ _ _ _ 0 rfl,(λb h1 h2=>by cases h1;cases h2;exact H45.o rfl),(λb h1 h2=>by cases h2),(λb h1 h2=>by cases h2),rfl⟩⟩
 clear hO HG4 HO4 HP3 HN3 HQ3 HS3 HB3 HL3 HP5 HN5 HS5 HL5 q0 qz c4 c4' f4' pz H45
 generalize z4.setCell ⟨p,4,none⟩ (.slice (some ⟨g6,0,none⟩) 2 k6)=z5 at *
 refine(put_new 1 1 (by omega) (by omega) rfl p 5 _ (p+1) z5 HK5.o.cells.2.2.2.2.1 HK5.o.left).mono ?_
 rintro e z6 ⟨rfl,hs,ho⟩
 have HK6:=Hm (HK5.o.cut hs ho)
 have HB6:=Hm (bO HB5.o hs (λb e=>by cases e;have:=(HK5.o.left.lt g5 rfl).1;show w.heap.size≤g5;omega))
 have HQ6:=Hm (hs.heap HQ5.o (λe=>by have:=(HK5.o.left.lt _ e).1;omega))
 clear hs ho HK5 HB5 HQ5
 have q0:=hcell HQ6.o 0
 have qz:=hlt HQ6.o
 simp at q0
 go_wp2_with fail
 rw[rounds_succ]
 go_wp2_with fail
 refine wp_loop_rounds 3 ?_
 rw[rounds_succ]
 go_wp2_with fail
 refine(simplify_3 HK6.o (HT.o.bel HB6.o) (by simp)).mono ?_
 unfold PushPost
 rintro e z7 ⟨rfl,hs,v6,h7⟩
 have HK7:=Hm h7
 have HB7:=Hm (bO HB6.o hs (λb e=>by have:p≤b:=e;omega))
 clear hs h7 HK6 HB6 q0 qz HQ6
 go_wp2_with fail
 rw[rounds_succ]
 go_wp2_with fail
 refine(simplify_2 HK7.o (HT.o.bel HB7.o) (by simp)).mono ?_
 unfold PushPost
 rintro e z8 ⟨rfl,hs,v6',h8⟩
 have HK8:=Hm h8
 have HB8:=Hm (bO HB7.o hs (λb e=>by have:p≤b:=e;omega))
 clear hs h8 HK7 HB7
 go_wp2_with fail
 rw[rounds_succ]
 go_wp2_with fail
 refine(simplify_0 HK8.o).mono ?_
 rintro e z9 ⟨rfl,hb⟩
 have HK9:=Hm (HK8.o.bel hb)
 have HB9:=Hm (bT HB8.o hb)
 clear hb HK8 HB8
 go_wp2_with fail
 refine(coalesce_0 HK9.o).mono ?_
 rintro e z10 ⟨rfl,rfl⟩
 go_wp2_with fail
 refine(freeze_0 HK9.o).mono ?_
 rintro e z11 ⟨rfl,hb⟩
 have HK11:=Hm (HK9.o.bel hb)
 have HB11:=Hm (bT HB9.o hb)
 clear hb HK9 HB9
 go_wp2_with fail
 refine(spill_0 HK11.o).mono ?_
 rintro e z12 ⟨rfl,hb⟩
 have HK12:=Hm (HK11.o.bel hb)
 have HB12:=Hm (bT HB11.o hb)
 clear hb HK11 HB11
 go_wp2_with fail
 refine(pick_any HK12.o).mono ?_
 rintro e z13 ⟨hb,g,rfl,hg,hh⟩
 have HB13:=Hm (bT HB12.o hb)
 have HG:=Hm (And.intro (Nat.le_trans HB12.o.size hg) hh)
 clear hb hg hh HK12 HB12
 go_wp2_with fail
 go_ret2
 exact⟨HB13.o,g,rfl,HG.o.1,HG.o.2⟩
structure TaskAt (w:World) (p:Nat) (fB lV:Value):Prop where
 head:w.heap[p]?=some (.cells ([.int .i64 1,.int .i64 2,fB,lV,.int .i64 2,.int .i64 3,.int .i64 1,.slice none 0 0,.slice none 0 0]:List Value).toArray 252 (0,0))
theorem TaskAt.bel {w w':World} {p:Nat} {fB lV:Value} (h:TaskAt w p fB lV) (hb:Bel w w'):TaskAt w' p fB lV:=⟨bHeap hb h.head⟩
theorem TaskAt.cells {w:World} {p:Nat} {fB lV:Value} (h:TaskAt w p fB lV):w.cell? ⟨p,0,none⟩=some (.int .i64 1)∧w.cell? ⟨p,1,none⟩=some (.int .i64 2)∧w.cell? ⟨p,2,none⟩=some fB∧w.cell? ⟨p,3,none⟩=some lV∧w.cell? ⟨p,4,none⟩=some (.int .i64 2)∧w.cell? ⟨p,5,none⟩=some (.int .i64 3)∧w.cell? ⟨p,6,none⟩=some (.int .i64 1)∧w.cell? ⟨p,7,none⟩=some (.slice none 0 0)∧w.cell? ⟨p,8,none⟩=some (.slice none 0 0)∧p < w.heap.size :=
 ⟨hcell h.head 0,hcell h.head 1,hcell h.head 2,hcell h.head 3,hcell h.head 4,hcell h.head 5,hcell h.head 6,hcell h.head 7,hcell h.head 8,hlt h.head⟩
section
variable {w:World} {p:Nat} {fB lV:Value}
theorem firm_one (h:TaskAt w p fB lV):Calls Tryz.prog 187 #[.pointer (some ⟨p,0,none⟩)] w λe w'=>Bel w w'∧∃ A c,e=.returned (.slice A 2 c):=by
 have k1:∀ w,(Instr.makeSlice 319 (.int .i64 2) (.int .i64 2)).run Tryz.prog w=.ok (.slice (some ⟨w.heap.size,0,none⟩) 2 2) (w.alloc (.cells #[.bool false,.bool false] 4)):=λ_=>by kernel_rfl
 obtain⟨p0,p1,p2,p3,p4,p5,p6,p7,p8,pz⟩:=h.cells
 clear h
 go_enter Tryz.func187,Tryz.ntmps187
 go_wp2_with fail
 refine wp_loop_rounds 1 ?_
 rw[rounds_succ]
 go_wp2_with fail
 go_ret
 exact⟨bA (bR w) _,_,_,rfl⟩
theorem registers_one (ht:TabOk w) (h:TaskAt w p fB lV):Calls Tryz.prog 161 #[.pointer (some ⟨p,0,none⟩),.agg #[.int .i64 2,.slice none 0 0,.slice none 0 0],.bool false] w λe w'=>Bel w w'∧∃ g,e=.returned (.slice (some ⟨g,0,none⟩) 2 2)∧w.heap.size≤g∧w'.heap[g]?=some (.cells #[.int .i64 0,.int .i64 0] 3 (0,0)):=by
 have HT:=Hm ht
 have HK:=Hm h
 obtain⟨p0,p1,p2,p3,p4,p5,p6,p7,p8,pz⟩:=h.cells
 clear h ht
 go_enter Tryz.func161,Tryz.ntmps161
 go_wp2_with fail
 refine rgn [.rd 0,.rd 1,.rd 2,.rd 3,.rd 4,.rd 5,.hv 6 [0,1,2,3,4],.hv 7 [],.rd 8,.rd 9,.rd 10,.rd 11,.rd 12] (n:=68) rfl ?_
 iterate 6 (refine line_rd rfl (λK hK=>?_);go_simp;refine hK _ ?_;clear hK K)
 refine line_hv rfl ?_
 go_wp2_with fail
 have hb0:Bel w ((w.alloc (.cells #[.int .i64 2,.slice none 0 0,.slice none 0 0] 286)).drew):=bD (bA (bR _) _)
 refine(firm_one (HK.o.bel hb0)).mono ?_
 rintro e w1 ⟨hb1,A,c,rfl⟩
 have hq:w1.heap[w.heap.size]?=some (.cells #[.int .i64 2,.slice none 0 0,.slice none 0 0] 286 (0,0)):=bHeap hb1 (hnew (w:=w) rfl)
 have q0:=hcell hq 0
 have q1:=hcell hq 1
 have q2:=hcell hq 2
 have qz:=hlt hq
 simp at q0 q1 q2
 have HB1:=Hm (bT hb0 hb1)
 have p5':=bCell (bT hb0 hb1) p5
 have pz':=World.block_lt_of_cell? _ _ p5'
 dsimp only at pz'
 clear hb0 hb1 hq p0 p1 p2 p3 p4 p5 p6 p7 p8
 go_wp2_with fail
 refine⟨?_,?_⟩
 ·simp only[Again,slotOf]
  go_simp
 refine line_hv rfl ?_
 go_wp2_with fail
 refine(colour_any A c w1 (HT.o.bel HB1.o)).mono ?_
 rintro e w2 ⟨hb2,g,rfl,hg,hh⟩
 have HB2:=Hm (bT HB1.o hb2)
 have HG:=Hm (And.intro (Nat.le_trans HB1.o.size hg) hh)
 clear hb2 hg hh q0 q1 q2 qz p5' pz'
 go_wp2_with fail
 refine⟨?_,?_⟩
 ·exact trivial
 iterate 5 (refine line_rd rfl (λK hK=>?_);go_simp;refine hK _ ?_;clear hK K)
 unfold Line
 go_wp2_with fail
 go_ret
 exact⟨HB2.o,g,rfl,HG.o.1,HG.o.2⟩
theorem without_one (g:Nat) (hg:w.heap[g]?=some (.cells #[.int .i64 0,.int .i64 0] 3 (0,0))):Calls Tryz.prog 162 #[.pointer (some ⟨p,0,none⟩),.agg #[.int .i64 2,.slice none 0 0,.slice none 0 0],.slice (some ⟨g,0,none⟩) 2 2] w λe w'=>Bel w w'∧e=.returned (.agg #[.slice none 0 0]):=by
 have HG:=Hm hg
 clear hg
 go_enter Tryz.func162,Tryz.ntmps162
 go_wp2_with fail
 have hb0:Bel w (((w.alloc (.cells #[.int .i64 2,.slice none 0 0,.slice none 0 0] 286)).alloc (.cells #[.slice none 0 0] 291)).alloc (.cells #[.slice none 0 0] 291)):=bA (bA (bA (bR _) _) _) _
 refine(nearE _).mono ?_
 rintro e w1 ⟨hb1,gN,rfl,-,-⟩
 have hr:w1.heap[w.heap.size+1]?=some (.cells #[.slice none 0 0] 291 (0,0)):=bHeap (bUA hb1) (hnew (by simp))
 have ho:w1.heap[w.heap.size+1+1]?=some (.cells #[.slice none 0 0] 291 (0,0)):=bHeap hb1 (hnew (by simp))
 have hh:=bHeap (bT hb0 hb1) HG.o
 have g0:=hcell hh 0
 have g1:=hcell hh 1
 have gz:=hlt hh
 have r0:=hcell hr 0
 have rf:=hfree hr 0
 have rz:=hlt hr
 have o0:=hcell ho 0
 have oz:=hlt ho
 simp at g0 g1 r0 o0
 have HB1:=Hm (bT hb0 hb1)
 clear hb0 hb1 hr ho hh
 go_wp2_with fail
 refine wp_loop_rounds 3 ?_
 rw[rounds_succ]
 go_wp2_with fail
 rw[rounds_succ]
 go_wp2_with fail
 rw[rounds_succ]
 go_wp2_with fail
 refine bodyPost_ret (v:=.agg #[.slice none 0 0]) (by simp[results,Tryz.results162,go_sem,r0,rz]) rfl ⟨bC HB1.o (by omega) _ _,rfl⟩
theorem round_one (ok:Nat→Prop) (ht:TabOk w) (hv:Kd.SK kBlock w ok [⟨[filI,binI],retE⟩] lV) (h:TaskAt w p fB lV):Calls Tryz.prog 132 #[.pointer (some ⟨p,0,none⟩),.bool false] w λe w'=>Bel w w'∧∃ g,e=.returned (.tuple #[.slice (some ⟨g,0,none⟩) 2 2,.bool true])∧w.heap.size≤g∧w'.heap[g]?=some (.cells #[.int .i64 0,.int .i64 0] 3 (0,0)):=by
 have HT:=Hm ht
 have HK:=Hm h
 have HV:=Hm hv
 obtain⟨A3,c3,e3,-⟩:=sk_form hv
 subst e3
 obtain⟨p0,p1,p2,p3,p4,p5,p6,p7,p8,pz⟩:=h.cells
 clear h ht hv
 go_enter Tryz.func132,Tryz.ntmps132
 go_wp2_with fail
 refine rgt (.rd 0 (.rd 4 (.rd 1 (.rd 5 (.rd 2 (.rd 6 (.rd 3 (.rd 7 (.br 8 [] (.hv 9 [] (.hv 10 [] (.nil))) (.hv 9 [0,4,1,5,2,6,3,7] (.hv 8 [] (.hv 10 [] (.nil))))))))))))) (n:=88) rfl ?_
 iterate 8 (refine tree_rd rfl (λK hK=>?_);go_simp;refine hK _ ?_;clear hK K)
 refine tree_br rfl ?_ ?_
 ·go_wp2_with fail
  refine(graph_one ok _ _ (HT.o.bel (bD (bR _))) (sk_bel HV.o (bD (bR _)))).mono ?_
  rintro e w1 ⟨rfl,hb1⟩
  have HB1:=Hm (bU hb1)
  clear hb1 p0 p1 p2 p3 p4 p5 p6 p7 p8 pz
  go_wp2_with fail
  refine⟨?_,?_⟩
  ·exact trivial
  refine tree_hv rfl ?_
  go_wp2_with fail
  refine⟨?_,?_⟩
  ·exact trivial
  refine tree_hv rfl ?_
  go_wp2_with fail
  refine⟨?_,?_⟩
  ·exact trivial
  unfold TreeL
  have HB:=Hm (bT HB1.o (bA (bR w1) (.cells #[.int .i64 2,.slice none 0 0,.slice none 0 0] 286)))
  obtain⟨gq,hgq⟩:∃ gq,gq=w1.heap.size:=⟨_,rfl⟩
  have HQ:Hd ((w1.alloc (.cells #[.int .i64 2,.slice none 0 0,.slice none 0 0] 286)).heap[gq]?=some (.cells #[.int .i64 2,.slice none 0 0,.slice none 0 0] 286 (0,0))):=⟨hnew hgq⟩
  rw[←hgq]
  clear hgq HB1
  generalize w1.alloc (.cells #[.int .i64 2,.slice none 0 0,.slice none 0 0] 286)=y0 at *
  have q0:=hcell HQ.o 0
  have q1:=hcell HQ.o 1
  have q2:=hcell HQ.o 2
  have qz:=hlt HQ.o
  simp at q0 q1 q2
  go_wp2_with fail
  refine(registers_one (HT.o.bel HB.o) (HK.o.bel HB.o)).mono ?_
  rintro e y1 ⟨hb,g,rfl,hg,hh⟩
  have HB1:=Hm (bT HB.o hb)
  have HQ1:=Hm (bHeap hb HQ.o)
  have HG1:=Hm (And.intro (Nat.le_trans HB.o.size hg) hh)
  clear hb hg hh q0 q1 q2 qz HB HQ
  have q0:=hcell HQ1.o 0
  have q1:=hcell HQ1.o 1
  have q2:=hcell HQ1.o 2
  have qz:=hlt HQ1.o
  simp at q0 q1 q2
  go_wp2_with fail
  refine(without_one g HG1.o.2).mono ?_
  rintro e y2 ⟨hb,rfl⟩
  have HB2:=Hm (bT HB1.o hb)
  have HG2:=Hm (bHeap hb HG1.o.2)
  clear hb q0 q1 q2 qz HB1 HQ1
  go_wp2_with fail
  refine(len_nil _).mono ?_
  rintro e y3 ⟨rfl,hb⟩
  have HB3:=Hm (bT HB2.o (bUA hb))
  have HG3:=Hm (bHeap (bUA hb) HG2.o)
  clear hb
  go_wp2_with fail
  go_ret2
  exact⟨HB3.o,g,rfl,HG1.o.1,HG3.o⟩
 ·refine tree_hv rfl ?_
  go_wp2_with fail
  refine⟨?_,?_⟩
  ·simp only[Again,slotOf]
   go_simp
  refine tree_hv rfl ?_
  go_wp2_with fail
  have hb0:Bel w ((w.alloc (.cells #[.int .i64 0,.slice none 0 0,.slice none 0 0] 286)).drew):=bD (bA (bR _) _)
  refine(graph_one ok _ _ (HT.o.bel hb0) (sk_bel HV.o hb0)).mono ?_
  rintro e w1 ⟨rfl,hb1⟩
  have HB1:=Hm (bT hb0 hb1)
  have hq:w1.heap[w.heap.size]?=some (.cells #[.int .i64 0,.slice none 0 0,.slice none 0 0] 286 (0,0)):=bHeap hb1 (hnew (w:=w) rfl)
  have HQ1:=Hm hq
  have q0:=hcell hq 0
  have q1:=hcell hq 1
  have q2:=hcell hq 2
  obtain⟨f0,f1,f2⟩:=fF3 hq
  have qz:=hlt hq
  simp at q0 q1 q2
  clear hb0 hb1 hq p0 p1 p2 p3 p4 p5 p6 p7 p8 pz
  go_wp2_with fail
  refine⟨?_,?_⟩
  ·exact trivial
  refine tree_hv rfl ?_
  go_wp2_with fail
  refine⟨?_,?_⟩
  ·exact trivial
  unfold TreeL
  have HB:=Hm (bC (bC (bC HB1.o (Nat.le_refl _) 0 (.int .i64 2)) (Nat.le_refl _) 1 (.slice none 0 0)) (Nat.le_refl _) 2 (.slice none 0 0))
  have HQ:Hd ((((w1.setCell ⟨w.heap.size,0,none⟩ (.int .i64 2)).setCell ⟨w.heap.size,1,none⟩ (.slice none 0 0)).setCell ⟨w.heap.size,2,none⟩ (.slice none 0 0)).heap[w.heap.size]?=some (.cells #[.int .i64 2,.slice none 0 0,.slice none 0 0] 286 (0,0))):=⟨set_at (cs:=[.int .i64 2,.slice none 0 0,.slice none 0 0]) (set_at (cs:=[.int .i64 2,.slice none 0 0,.slice none 0 0]) (set_at (cs:=[.int .i64 0,.slice none 0 0,.slice none 0 0]) HQ1.o 0 (.int .i64 2)) 1 (.slice none 0 0)) 2 (.slice none 0 0)⟩
  clear HB1 HQ1 q0 q1 q2 f0 f1 f2 qz
  generalize ((w1.setCell ⟨w.heap.size,0,none⟩ (.int .i64 2)).setCell ⟨w.heap.size,1,none⟩ (.slice none 0 0)).setCell ⟨w.heap.size,2,none⟩ (.slice none 0 0)=y0 at *
  have q0:=hcell HQ.o 0
  have q1:=hcell HQ.o 1
  have q2:=hcell HQ.o 2
  have qz:=hlt HQ.o
  simp at q0 q1 q2
  go_wp2_with fail
  refine(registers_one (HT.o.bel HB.o) (HK.o.bel HB.o)).mono ?_
  rintro e y1 ⟨hb,g,rfl,hg,hh⟩
  have HB1:=Hm (bT HB.o hb)
  have HQ1:=Hm (bHeap hb HQ.o)
  have HG1:=Hm (And.intro (Nat.le_trans HB.o.size hg) hh)
  clear hb hg hh q0 q1 q2 qz HB HQ
  have q0:=hcell HQ1.o 0
  have q1:=hcell HQ1.o 1
  have q2:=hcell HQ1.o 2
  have qz:=hlt HQ1.o
  simp at q0 q1 q2
  go_wp2_with fail
  refine(without_one g HG1.o.2).mono ?_
  rintro e y2 ⟨hb,rfl⟩
  have HB2:=Hm (bT HB1.o hb)
  have HG2:=Hm (bHeap hb HG1.o.2)
  clear hb q0 q1 q2 qz HB1 HQ1
  go_wp2_with fail
  refine(len_nil _).mono ?_
  rintro e y3 ⟨rfl,hb⟩
  have HB3:=Hm (bT HB2.o (bUA hb))
  have HG3:=Hm (bHeap (bUA hb) HG2.o)
  clear hb
  go_wp2_with fail
  go_ret2
  exact⟨HB3.o,g,rfl,HG1.o.1,HG3.o⟩
end
end Go.Proofs.YtjkgligohegaeaaGreatDoor
