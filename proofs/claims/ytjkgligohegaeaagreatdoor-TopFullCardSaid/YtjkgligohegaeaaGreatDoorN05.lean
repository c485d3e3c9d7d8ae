/- Lemmas of the row. -/
import Derived.Test.YtjkgligohegaeaaGreatDoorN04
set_option linter.all false
set_option maxRecDepth 20000
set_option maxHeartbeats 12800000
namespace Go.Proofs.YtjkgligohegaeaaGreatDoor
open Go.RowKit
theorem wins_1 (p:Nat) (l:List UInt8) (op d a b n:Int) (args:List Int) (A:Option Addr) (c:Nat) (w:World) (h:WrAt w p l) (hI:Ints w A args) (hA:0 < args.length→∀ x,A=some x→x.block≠p)
  (ho:0≤op∧op < 4096) (hd:0≤d∧d < 4096) (ha:0≤a∧a < 4096) (hb:0≤b∧b < 4096) (hn:-9223372036854775808≤n∧n≤9223372036854775807) (hargs:∀ x∈args,0≤x∧x < 4096) (hlen:args.length≤3) (hl:l.length≤9000000) :
  Calls Tryz.prog 146 #[.pointer (some ⟨p,0,none⟩),.agg #[.int .u8 1,.int .u8 op,.int .i64 d,.int .i64 a,.int .i64 b,.int .i64 n,.slice A args.length c]] w λe w'=>e=.returned (.tuple #[])∧WrStep w w' p (l++encIns ⟨1,op,d,a,b,n,args⟩):=by
 have hp:=h.lt
 have hpn:w.heap.size≠p:=by omega
 obtain⟨w0,hw0⟩:∃ w0,w0=w.alloc (.cells #[.int .u8 1,.int .u8 op,.int .i64 d,.int .i64 a,.int .i64 b,.int .i64 n,.slice A args.length c] 91):=⟨_,rfl⟩
 have HB0:=Hm (show Bel w w0 by rw[hw0];exact bA (bR w) _)
 have HW0:=Hm (h.below HB0.o)
 have HI0:=Hm (And.intro (hI.below HB0.o) hA)
 have HL:=Hm hl
 have HN:=Hm (And.intro ho (And.intro hd (And.intro ha (And.intro hb hargs))))
 have q0:w0.cell? ⟨w.heap.size,0,none⟩=some (.int .u8 1):=by rw[hw0];go_simp
 have q1:w0.cell? ⟨w.heap.size,1,none⟩=some (.int .u8 op):=by rw[hw0];go_simp
 have q2:w0.cell? ⟨w.heap.size,2,none⟩=some (.int .i64 d):=by rw[hw0];go_simp
 have q3:w0.cell? ⟨w.heap.size,3,none⟩=some (.int .i64 a):=by rw[hw0];go_simp
 have q4:w0.cell? ⟨w.heap.size,4,none⟩=some (.int .i64 b):=by rw[hw0];go_simp
 have q5:w0.cell? ⟨w.heap.size,5,none⟩=some (.int .i64 n):=by rw[hw0];go_simp
 have q6:w0.cell? ⟨w.heap.size,6,none⟩=some (.slice A args.length c):=by rw[hw0];go_simp
 have hz0:w.heap.size < w0.heap.size:=by rw[hw0];simp
 have HZ0:Hd (w.heap.size+1=w0.heap.size):=⟨by rw[hw0];simp⟩
 clear h hI hA hl hargs
 go_enter Tryz.func146,Tryz.ntmps146
 go_wp2_with fail
 rw[←hw0]
 clear hw0
 refine(nums_lit p _ [(1:Int)] _ _ _ HZ0.o rfl HW0.o (by simp<;>omega) (by have:=HL.o;simp only[List.length_append,List.length_cons,List.length_nil] at *;omega)).mono ?_
 rintro e w1 ⟨rfl,hs⟩
 have hc:=gcell hs.grown
 replace q0:=(hc w.heap.size 0 hz0 hpn).trans q0
 replace q1:=(hc w.heap.size 1 hz0 hpn).trans q1
 replace q2:=(hc w.heap.size 2 hz0 hpn).trans q2
 replace q3:=(hc w.heap.size 3 hz0 hpn).trans q3
 replace q4:=(hc w.heap.size 4 hz0 hpn).trans q4
 replace q5:=(hc w.heap.size 5 hz0 hpn).trans q5
 replace q6:=(hc w.heap.size 6 hz0 hpn).trans q6
 have hz1:w.heap.size < w1.heap.size:=by have:=hs.grown.size;omega
 have HS1:=Hm hs
 have HW1:=Hm hs.wr
 clear hs hc hz0
 go_wp2_with fail
 refine(nums_lit p _ [d] _ _ _ rfl rfl HW1.o (by simp<;>omega) (by have:=HL.o;have:=flatL_len [(1:Int)] (by simp<;>omega);simp only[List.length_append,List.length_cons,List.length_nil] at *;omega)).mono ?_
 rintro e w2 ⟨rfl,hs⟩
 have hc:=gcell hs.grown
 replace q0:=(hc w.heap.size 0 hz1 hpn).trans q0
 replace q1:=(hc w.heap.size 1 hz1 hpn).trans q1
 replace q2:=(hc w.heap.size 2 hz1 hpn).trans q2
 replace q3:=(hc w.heap.size 3 hz1 hpn).trans q3
 replace q4:=(hc w.heap.size 4 hz1 hpn).trans q4
 replace q5:=(hc w.heap.size 5 hz1 hpn).trans q5
 replace q6:=(hc w.heap.size 6 hz1 hpn).trans q6
 have hz2:w.heap.size < w2.heap.size:=by have:=hs.grown.size;omega
 have HS2:=Hm (WrStep.trans HS1.o hs)
 have HW2:=Hm hs.wr
 clear hs hc hz1
 go_wp2_with fail
 obtain⟨A3,ca3,hwi⟩:=HW2.o
 obtain⟨B,hB⟩:∃ B,l++flatL [(1:Int)]++flatL [d]=B:=⟨_,rfl⟩
 have hBl:B.length≤10000000:=by rw[←hB];have:=HL.o;have e1:=flatL_len [(1:Int)] (by simp);have e2:=flatL_len [d] (by simp;omega);simp only[List.length_append,List.length_cons,List.length_nil] at *;omega
 have HBE:=Hm hB
 rw[hB] at hwi
 have HWI:=Hm hwi
 have x0:=hwi.c0
 have x1:=hwi.free 0
 clear hwi hB
 refine rgn [.rd 0,.rd 1,.rd 2,.rd 3,.rd 4,.rd 5,.rd 6,.hv 7 [0],.rd 8,.rd 9,.hv 10 []] (n:=91) rfl ?_
 iterate 7 (refine line_rd rfl (λK hK=>?_);go_simp;refine hK _ ?_;clear hK K)
 refine line_hv rfl ?_
 go_wp2_with fail
 refine(putInt_any A3 ca3 B n (World.drew _) HWI.o.bytes hBl hn.1 hn.2).mono ?_
 rintro e w3 ⟨hb1,v1,rfl,ho1⟩
 obtain⟨A2,c2,rfl,-,-,-,-,-⟩:=own_row ho1
 have x2:=bCell (bU hb1) x0
 have x3:=bFree (bU hb1) x0 x1
 have r0:=bCell (bU hb1) q0
 have r1:=bCell (bU hb1) q1
 have r2:=bCell (bU hb1) q2
 have r3:=bCell (bU hb1) q3
 have r4:=bCell (bU hb1) q4
 have r5:=bCell (bU hb1) q5
 have r6:=bCell (bU hb1) q6
 have hzz:w.heap.size < w3.heap.size:=by have:=(bU hb1).size;omega
 have HB1:=Hm (bU hb1)
 have HO1:=Hm ho1
 clear hb1 ho1 x0 x1 q0 q1 q2 q3 q4 q5 q6
 go_wp2_with fail
 refine⟨?_,?_⟩
 ·simp only[Again,slotOf]
  go_simp
 iterate 2 (refine line_rd rfl (λK hK=>?_);go_simp;refine hK _ ?_;clear hK K)
 refine line_hv rfl ?_
 go_wp2_with fail
 refine⟨?_,?_⟩
 ·exact trivial
 unfold Line
 have hfin:WrStep w2 (w3.setCell ⟨p,0,none⟩ (.slice A2 (B++leb (zig n)).length c2)) p (l++flatL [(1:Int)]++flatL [d]++leb (zig n)):=by
  rw[HBE.o]
  exact⟨grownBy_trans (grownBy_below HB1.o) (grownBy_cell _ _ _ _),HWI.o.store HB1.o HO1.o⟩
 simp only[List.length_append] at hfin
 have HF:=Hm hfin
 clear hfin x2 x3
 have q0:(w3.setCell ⟨p,0,none⟩ (.slice A2 (B.length+(leb (zig n)).length) c2)).cell? ⟨w.heap.size,0,none⟩=_:=(cell_of_heap (a:=⟨w.heap.size,0,none⟩) (heap_setCell_other _ ⟨p,0,none⟩ w.heap.size _ hpn)).trans r0
 have q1:(w3.setCell ⟨p,0,none⟩ (.slice A2 (B.length+(leb (zig n)).length) c2)).cell? ⟨w.heap.size,1,none⟩=_:=(cell_of_heap (a:=⟨w.heap.size,1,none⟩) (heap_setCell_other _ ⟨p,0,none⟩ w.heap.size _ hpn)).trans r1
 have q2:(w3.setCell ⟨p,0,none⟩ (.slice A2 (B.length+(leb (zig n)).length) c2)).cell? ⟨w.heap.size,2,none⟩=_:=(cell_of_heap (a:=⟨w.heap.size,2,none⟩) (heap_setCell_other _ ⟨p,0,none⟩ w.heap.size _ hpn)).trans r2
 have q3:(w3.setCell ⟨p,0,none⟩ (.slice A2 (B.length+(leb (zig n)).length) c2)).cell? ⟨w.heap.size,3,none⟩=_:=(cell_of_heap (a:=⟨w.heap.size,3,none⟩) (heap_setCell_other _ ⟨p,0,none⟩ w.heap.size _ hpn)).trans r3
 have q4:(w3.setCell ⟨p,0,none⟩ (.slice A2 (B.length+(leb (zig n)).length) c2)).cell? ⟨w.heap.size,4,none⟩=_:=(cell_of_heap (a:=⟨w.heap.size,4,none⟩) (heap_setCell_other _ ⟨p,0,none⟩ w.heap.size _ hpn)).trans r4
 have q5:(w3.setCell ⟨p,0,none⟩ (.slice A2 (B.length+(leb (zig n)).length) c2)).cell? ⟨w.heap.size,5,none⟩=_:=(cell_of_heap (a:=⟨w.heap.size,5,none⟩) (heap_setCell_other _ ⟨p,0,none⟩ w.heap.size _ hpn)).trans r5
 have q6:(w3.setCell ⟨p,0,none⟩ (.slice A2 (B.length+(leb (zig n)).length) c2)).cell? ⟨w.heap.size,6,none⟩=_:=(cell_of_heap (a:=⟨w.heap.size,6,none⟩) (heap_setCell_other _ ⟨p,0,none⟩ w.heap.size _ hpn)).trans r6
 have hz3:w.heap.size < (w3.setCell ⟨p,0,none⟩ (.slice A2 (B.length+(leb (zig n)).length) c2)).heap.size:=by simpa using hzz
 obtain⟨ws,hws⟩:∃ ws,ws=w3.setCell ⟨p,0,none⟩ (.slice A2 (B.length+(leb (zig n)).length) c2):=⟨_,rfl⟩
 rw[←hws] at HF q0 q1 q2 q3 q4 q5 q6 hz3⊢
 clear hws r0 r1 r2 r3 r4 r5 r6 hzz hz2 HO1 HWI
 clear HB1
 have HS3:=Hm (WrStep.trans HS2.o HF.o)
 have HW3:=Hm HF.o.wr
 go_wp2
 go_end0
 refine⟨rfl,grownBy_trans (grownBy_below HB0.o) HS3.o.grown,?_⟩
 have:=HS3.o.wr
 simpa [encIns,List.append_assoc] using this
theorem wins_2 (p:Nat) (l:List UInt8) (op d a b n:Int) (args:List Int) (A:Option Addr) (c:Nat) (w:World) (h:WrAt w p l) (hI:Ints w A args) (hA:0 < args.length→∀ x,A=some x→x.block≠p)
  (ho:0≤op∧op < 4096) (hd:0≤d∧d < 4096) (ha:0≤a∧a < 4096) (hb:0≤b∧b < 4096) (hn:-9223372036854775808≤n∧n≤9223372036854775807) (hargs:∀ x∈args,0≤x∧x < 4096) (hlen:args.length≤3) (hl:l.length≤9000000) :
  Calls Tryz.prog 146 #[.pointer (some ⟨p,0,none⟩),.agg #[.int .u8 2,.int .u8 op,.int .i64 d,.int .i64 a,.int .i64 b,.int .i64 n,.slice A args.length c]] w λe w'=>e=.returned (.tuple #[])∧WrStep w w' p (l++encIns ⟨2,op,d,a,b,n,args⟩):=by
 have hp:=h.lt
 have hpn:w.heap.size≠p:=by omega
 obtain⟨w0,hw0⟩:∃ w0,w0=w.alloc (.cells #[.int .u8 2,.int .u8 op,.int .i64 d,.int .i64 a,.int .i64 b,.int .i64 n,.slice A args.length c] 91):=⟨_,rfl⟩
 have HB0:=Hm (show Bel w w0 by rw[hw0];exact bA (bR w) _)
 have HW0:=Hm (h.below HB0.o)
 have HI0:=Hm (And.intro (hI.below HB0.o) hA)
 have HL:=Hm hl
 have HN:=Hm (And.intro ho (And.intro hd (And.intro ha (And.intro hb hargs))))
 have q0:w0.cell? ⟨w.heap.size,0,none⟩=some (.int .u8 2):=by rw[hw0];go_simp
 have q1:w0.cell? ⟨w.heap.size,1,none⟩=some (.int .u8 op):=by rw[hw0];go_simp
 have q2:w0.cell? ⟨w.heap.size,2,none⟩=some (.int .i64 d):=by rw[hw0];go_simp
 have q3:w0.cell? ⟨w.heap.size,3,none⟩=some (.int .i64 a):=by rw[hw0];go_simp
 have q4:w0.cell? ⟨w.heap.size,4,none⟩=some (.int .i64 b):=by rw[hw0];go_simp
 have q5:w0.cell? ⟨w.heap.size,5,none⟩=some (.int .i64 n):=by rw[hw0];go_simp
 have q6:w0.cell? ⟨w.heap.size,6,none⟩=some (.slice A args.length c):=by rw[hw0];go_simp
 have hz0:w.heap.size < w0.heap.size:=by rw[hw0];simp
 have HZ0:Hd (w.heap.size+1=w0.heap.size):=⟨by rw[hw0];simp⟩
 clear h hI hA hl hargs
 go_enter Tryz.func146,Tryz.ntmps146
 go_wp2_with fail
 rw[←hw0]
 clear hw0
 refine(nums_lit p _ [(2:Int)] _ _ _ HZ0.o rfl HW0.o (by simp<;>omega) (by have:=HL.o;simp only[List.length_append,List.length_cons,List.length_nil] at *;omega)).mono ?_
 rintro e w1 ⟨rfl,hs⟩
 have hc:=gcell hs.grown
 replace q0:=(hc w.heap.size 0 hz0 hpn).trans q0
 replace q1:=(hc w.heap.size 1 hz0 hpn).trans q1
 replace q2:=(hc w.heap.size 2 hz0 hpn).trans q2
 replace q3:=(hc w.heap.size 3 hz0 hpn).trans q3
 replace q4:=(hc w.heap.size 4 hz0 hpn).trans q4
 replace q5:=(hc w.heap.size 5 hz0 hpn).trans q5
 replace q6:=(hc w.heap.size 6 hz0 hpn).trans q6
 have hz1:w.heap.size < w1.heap.size:=by have:=hs.grown.size;omega
 have HS1:=Hm hs
 have HW1:=Hm hs.wr
 clear hs hc hz0
 go_wp2_with fail
 refine(nums_lit p _ [d,a] _ _ _ rfl rfl HW1.o (by simp<;>omega) (by have:=HL.o;have:=flatL_len [(2:Int)] (by simp<;>omega);simp only[List.length_append,List.length_cons,List.length_nil] at *;omega)).mono ?_
 rintro e w2 ⟨rfl,hs⟩
 have hc:=gcell hs.grown
 replace q0:=(hc w.heap.size 0 hz1 hpn).trans q0
 replace q1:=(hc w.heap.size 1 hz1 hpn).trans q1
 replace q2:=(hc w.heap.size 2 hz1 hpn).trans q2
 replace q3:=(hc w.heap.size 3 hz1 hpn).trans q3
 replace q4:=(hc w.heap.size 4 hz1 hpn).trans q4
 replace q5:=(hc w.heap.size 5 hz1 hpn).trans q5
 replace q6:=(hc w.heap.size 6 hz1 hpn).trans q6
 have hz2:w.heap.size < w2.heap.size:=by have:=hs.grown.size;omega
 have HS2:=Hm (WrStep.trans HS1.o hs)
 have HW2:=Hm hs.wr
 clear hs hc hz1
 go_wp2
 go_end0
 refine⟨rfl,grownBy_trans (grownBy_below HB0.o) HS2.o.grown,?_⟩
 have:=HS2.o.wr
 simpa [encIns,List.append_assoc] using this
theorem wins_4 (p:Nat) (l:List UInt8) (op d a b n:Int) (args:List Int) (A:Option Addr) (c:Nat) (w:World) (h:WrAt w p l) (hI:Ints w A args) (hA:0 < args.length→∀ x,A=some x→x.block≠p)
  (ho:0≤op∧op < 4096) (hd:0≤d∧d < 4096) (ha:0≤a∧a < 4096) (hb:0≤b∧b < 4096) (hn:-9223372036854775808≤n∧n≤9223372036854775807) (hargs:∀ x∈args,0≤x∧x < 4096) (hlen:args.length≤3) (hl:l.length≤9000000) :
  Calls Tryz.prog 146 #[.pointer (some ⟨p,0,none⟩),.agg #[.int .u8 4,.int .u8 op,.int .i64 d,.int .i64 a,.int .i64 b,.int .i64 n,.slice A args.length c]] w λe w'=>e=.returned (.tuple #[])∧WrStep w w' p (l++encIns ⟨4,op,d,a,b,n,args⟩):=by
 have hp:=h.lt
 have hpn:w.heap.size≠p:=by omega
 obtain⟨w0,hw0⟩:∃ w0,w0=w.alloc (.cells #[.int .u8 4,.int .u8 op,.int .i64 d,.int .i64 a,.int .i64 b,.int .i64 n,.slice A args.length c] 91):=⟨_,rfl⟩
 have HB0:=Hm (show Bel w w0 by rw[hw0];exact bA (bR w) _)
 have HW0:=Hm (h.below HB0.o)
 have HI0:=Hm (And.intro (hI.below HB0.o) hA)
 have HL:=Hm hl
 have HN:=Hm (And.intro ho (And.intro hd (And.intro ha (And.intro hb hargs))))
 have q0:w0.cell? ⟨w.heap.size,0,none⟩=some (.int .u8 4):=by rw[hw0];go_simp
 have q1:w0.cell? ⟨w.heap.size,1,none⟩=some (.int .u8 op):=by rw[hw0];go_simp
 have q2:w0.cell? ⟨w.heap.size,2,none⟩=some (.int .i64 d):=by rw[hw0];go_simp
 have q3:w0.cell? ⟨w.heap.size,3,none⟩=some (.int .i64 a):=by rw[hw0];go_simp
 have q4:w0.cell? ⟨w.heap.size,4,none⟩=some (.int .i64 b):=by rw[hw0];go_simp
 have q5:w0.cell? ⟨w.heap.size,5,none⟩=some (.int .i64 n):=by rw[hw0];go_simp
 have q6:w0.cell? ⟨w.heap.size,6,none⟩=some (.slice A args.length c):=by rw[hw0];go_simp
 have hz0:w.heap.size < w0.heap.size:=by rw[hw0];simp
 have HZ0:Hd (w.heap.size+1=w0.heap.size):=⟨by rw[hw0];simp⟩
 clear h hI hA hl hargs
 go_enter Tryz.func146,Tryz.ntmps146
 go_wp2_with fail
 rw[←hw0]
 clear hw0
 refine(nums_lit p _ [(4:Int)] _ _ _ HZ0.o rfl HW0.o (by simp<;>omega) (by have:=HL.o;simp only[List.length_append,List.length_cons,List.length_nil] at *;omega)).mono ?_
 rintro e w1 ⟨rfl,hs⟩
 have hc:=gcell hs.grown
 replace q0:=(hc w.heap.size 0 hz0 hpn).trans q0
 replace q1:=(hc w.heap.size 1 hz0 hpn).trans q1
 replace q2:=(hc w.heap.size 2 hz0 hpn).trans q2
 replace q3:=(hc w.heap.size 3 hz0 hpn).trans q3
 replace q4:=(hc w.heap.size 4 hz0 hpn).trans q4
 replace q5:=(hc w.heap.size 5 hz0 hpn).trans q5
 replace q6:=(hc w.heap.size 6 hz0 hpn).trans q6
 have hz1:w.heap.size < w1.heap.size:=by have:=hs.grown.size;omega
 have HS1:=Hm hs
 have HW1:=Hm hs.wr
 clear hs hc hz0
 go_wp2_with fail
 refine(nums_lit p _ [d,a] _ _ _ rfl rfl HW1.o (by simp<;>omega) (by have:=HL.o;have:=flatL_len [(4:Int)] (by simp<;>omega);simp only[List.length_append,List.length_cons,List.length_nil] at *;omega)).mono ?_
 rintro e w2 ⟨rfl,hs⟩
 have hc:=gcell hs.grown
 replace q0:=(hc w.heap.size 0 hz1 hpn).trans q0
 replace q1:=(hc w.heap.size 1 hz1 hpn).trans q1
 replace q2:=(hc w.heap.size 2 hz1 hpn).trans q2
 replace q3:=(hc w.heap.size 3 hz1 hpn).trans q3
 replace q4:=(hc w.heap.size 4 hz1 hpn).trans q4
 replace q5:=(hc w.heap.size 5 hz1 hpn).trans q5
 replace q6:=(hc w.heap.size 6 hz1 hpn).trans q6
 have hz2:w.heap.size < w2.heap.size:=by have:=hs.grown.size;omega
 have HS2:=Hm (WrStep.trans HS1.o hs)
 have HW2:=Hm hs.wr
 clear hs hc hz1
 go_wp2
 go_end0
 refine⟨rfl,grownBy_trans (grownBy_below HB0.o) HS2.o.grown,?_⟩
 have:=HS2.o.wr
 simpa [encIns,List.append_assoc] using this
theorem wins_7 (p:Nat) (l:List UInt8) (op d a b n:Int) (args:List Int) (A:Option Addr) (c:Nat) (w:World) (h:WrAt w p l) (hI:Ints w A args) (hA:0 < args.length→∀ x,A=some x→x.block≠p)
  (ho:0≤op∧op < 4096) (hd:0≤d∧d < 4096) (ha:0≤a∧a < 4096) (hb:0≤b∧b < 4096) (hn:-9223372036854775808≤n∧n≤9223372036854775807) (hargs:∀ x∈args,0≤x∧x < 4096) (hlen:args.length≤3) (hl:l.length≤9000000) :
  Calls Tryz.prog 146 #[.pointer (some ⟨p,0,none⟩),.agg #[.int .u8 7,.int .u8 op,.int .i64 d,.int .i64 a,.int .i64 b,.int .i64 n,.slice A args.length c]] w λe w'=>e=.returned (.tuple #[])∧WrStep w w' p (l++encIns ⟨7,op,d,a,b,n,args⟩):=by
 have hp:=h.lt
 have hpn:w.heap.size≠p:=by omega
 obtain⟨w0,hw0⟩:∃ w0,w0=w.alloc (.cells #[.int .u8 7,.int .u8 op,.int .i64 d,.int .i64 a,.int .i64 b,.int .i64 n,.slice A args.length c] 91):=⟨_,rfl⟩
 have HB0:=Hm (show Bel w w0 by rw[hw0];exact bA (bR w) _)
 have HW0:=Hm (h.below HB0.o)
 have HI0:=Hm (And.intro (hI.below HB0.o) hA)
 have HL:=Hm hl
 have HN:=Hm (And.intro ho (And.intro hd (And.intro ha (And.intro hb hargs))))
 have q0:w0.cell? ⟨w.heap.size,0,none⟩=some (.int .u8 7):=by rw[hw0];go_simp
 have q1:w0.cell? ⟨w.heap.size,1,none⟩=some (.int .u8 op):=by rw[hw0];go_simp
 have q2:w0.cell? ⟨w.heap.size,2,none⟩=some (.int .i64 d):=by rw[hw0];go_simp
 have q3:w0.cell? ⟨w.heap.size,3,none⟩=some (.int .i64 a):=by rw[hw0];go_simp
 have q4:w0.cell? ⟨w.heap.size,4,none⟩=some (.int .i64 b):=by rw[hw0];go_simp
 have q5:w0.cell? ⟨w.heap.size,5,none⟩=some (.int .i64 n):=by rw[hw0];go_simp
 have q6:w0.cell? ⟨w.heap.size,6,none⟩=some (.slice A args.length c):=by rw[hw0];go_simp
 have hz0:w.heap.size < w0.heap.size:=by rw[hw0];simp
 have HZ0:Hd (w.heap.size+1=w0.heap.size):=⟨by rw[hw0];simp⟩
 clear h hI hA hl hargs
 go_enter Tryz.func146,Tryz.ntmps146
 go_wp2_with fail
 rw[←hw0]
 clear hw0
 refine(nums_lit p _ [(7:Int)] _ _ _ HZ0.o rfl HW0.o (by simp<;>omega) (by have:=HL.o;simp only[List.length_append,List.length_cons,List.length_nil] at *;omega)).mono ?_
 rintro e w1 ⟨rfl,hs⟩
 have hc:=gcell hs.grown
 replace q0:=(hc w.heap.size 0 hz0 hpn).trans q0
 replace q1:=(hc w.heap.size 1 hz0 hpn).trans q1
 replace q2:=(hc w.heap.size 2 hz0 hpn).trans q2
 replace q3:=(hc w.heap.size 3 hz0 hpn).trans q3
 replace q4:=(hc w.heap.size 4 hz0 hpn).trans q4
 replace q5:=(hc w.heap.size 5 hz0 hpn).trans q5
 replace q6:=(hc w.heap.size 6 hz0 hpn).trans q6
 have hz1:w.heap.size < w1.heap.size:=by have:=hs.grown.size;omega
 have HS1:=Hm hs
 have HW1:=Hm hs.wr
 clear hs hc hz0
 go_wp2_with fail
 refine(nums_lit p _ [d,a] _ _ _ rfl rfl HW1.o (by simp<;>omega) (by have:=HL.o;have:=flatL_len [(7:Int)] (by simp<;>omega);simp only[List.length_append,List.length_cons,List.length_nil] at *;omega)).mono ?_
 rintro e w2 ⟨rfl,hs⟩
 have hc:=gcell hs.grown
 replace q0:=(hc w.heap.size 0 hz1 hpn).trans q0
 replace q1:=(hc w.heap.size 1 hz1 hpn).trans q1
 replace q2:=(hc w.heap.size 2 hz1 hpn).trans q2
 replace q3:=(hc w.heap.size 3 hz1 hpn).trans q3
 replace q4:=(hc w.heap.size 4 hz1 hpn).trans q4
 replace q5:=(hc w.heap.size 5 hz1 hpn).trans q5
 replace q6:=(hc w.heap.size 6 hz1 hpn).trans q6
 have hz2:w.heap.size < w2.heap.size:=by have:=hs.grown.size;omega
 have HS2:=Hm (WrStep.trans HS1.o hs)
 have HW2:=Hm hs.wr
 clear hs hc hz1
 go_wp2
 go_end0
 refine⟨rfl,grownBy_trans (grownBy_below HB0.o) HS2.o.grown,?_⟩
 have:=HS2.o.wr
 simpa [encIns,List.append_assoc] using this
theorem wins_8 (p:Nat) (l:List UInt8) (op d a b n:Int) (args:List Int) (A:Option Addr) (c:Nat) (w:World) (h:WrAt w p l) (hI:Ints w A args) (hA:0 < args.length→∀ x,A=some x→x.block≠p)
  (ho:0≤op∧op < 4096) (hd:0≤d∧d < 4096) (ha:0≤a∧a < 4096) (hb:0≤b∧b < 4096) (hn:-9223372036854775808≤n∧n≤9223372036854775807) (hargs:∀ x∈args,0≤x∧x < 4096) (hlen:args.length≤3) (hl:l.length≤9000000) :
  Calls Tryz.prog 146 #[.pointer (some ⟨p,0,none⟩),.agg #[.int .u8 8,.int .u8 op,.int .i64 d,.int .i64 a,.int .i64 b,.int .i64 n,.slice A args.length c]] w λe w'=>e=.returned (.tuple #[])∧WrStep w w' p (l++encIns ⟨8,op,d,a,b,n,args⟩):=by
 have hp:=h.lt
 have hpn:w.heap.size≠p:=by omega
 obtain⟨w0,hw0⟩:∃ w0,w0=w.alloc (.cells #[.int .u8 8,.int .u8 op,.int .i64 d,.int .i64 a,.int .i64 b,.int .i64 n,.slice A args.length c] 91):=⟨_,rfl⟩
 have HB0:=Hm (show Bel w w0 by rw[hw0];exact bA (bR w) _)
 have HW0:=Hm (h.below HB0.o)
 have HI0:=Hm (And.intro (hI.below HB0.o) hA)
 have HL:=Hm hl
 have HN:=Hm (And.intro ho (And.intro hd (And.intro ha (And.intro hb hargs))))
 have q0:w0.cell? ⟨w.heap.size,0,none⟩=some (.int .u8 8):=by rw[hw0];go_simp
 have q1:w0.cell? ⟨w.heap.size,1,none⟩=some (.int .u8 op):=by rw[hw0];go_simp
 have q2:w0.cell? ⟨w.heap.size,2,none⟩=some (.int .i64 d):=by rw[hw0];go_simp
 have q3:w0.cell? ⟨w.heap.size,3,none⟩=some (.int .i64 a):=by rw[hw0];go_simp
 have q4:w0.cell? ⟨w.heap.size,4,none⟩=some (.int .i64 b):=by rw[hw0];go_simp
 have q5:w0.cell? ⟨w.heap.size,5,none⟩=some (.int .i64 n):=by rw[hw0];go_simp
 have q6:w0.cell? ⟨w.heap.size,6,none⟩=some (.slice A args.length c):=by rw[hw0];go_simp
 have hz0:w.heap.size < w0.heap.size:=by rw[hw0];simp
 have HZ0:Hd (w.heap.size+1=w0.heap.size):=⟨by rw[hw0];simp⟩
 clear h hI hA hl hargs
 go_enter Tryz.func146,Tryz.ntmps146
 go_wp2_with fail
 rw[←hw0]
 clear hw0
 refine(nums_lit p _ [(8:Int)] _ _ _ HZ0.o rfl HW0.o (by simp<;>omega) (by have:=HL.o;simp only[List.length_append,List.length_cons,List.length_nil] at *;omega)).mono ?_
 rintro e w1 ⟨rfl,hs⟩
 have hc:=gcell hs.grown
 replace q0:=(hc w.heap.size 0 hz0 hpn).trans q0
 replace q1:=(hc w.heap.size 1 hz0 hpn).trans q1
 replace q2:=(hc w.heap.size 2 hz0 hpn).trans q2
 replace q3:=(hc w.heap.size 3 hz0 hpn).trans q3
 replace q4:=(hc w.heap.size 4 hz0 hpn).trans q4
 replace q5:=(hc w.heap.size 5 hz0 hpn).trans q5
 replace q6:=(hc w.heap.size 6 hz0 hpn).trans q6
 have hz1:w.heap.size < w1.heap.size:=by have:=hs.grown.size;omega
 have HS1:=Hm hs
 have HW1:=Hm hs.wr
 clear hs hc hz0
 go_wp2_with fail
 refine(nums_lit p _ [d,a] _ _ _ rfl rfl HW1.o (by simp<;>omega) (by have:=HL.o;have:=flatL_len [(8:Int)] (by simp<;>omega);simp only[List.length_append,List.length_cons,List.length_nil] at *;omega)).mono ?_
 rintro e w2 ⟨rfl,hs⟩
 have hc:=gcell hs.grown
 replace q0:=(hc w.heap.size 0 hz1 hpn).trans q0
 replace q1:=(hc w.heap.size 1 hz1 hpn).trans q1
 replace q2:=(hc w.heap.size 2 hz1 hpn).trans q2
 replace q3:=(hc w.heap.size 3 hz1 hpn).trans q3
 replace q4:=(hc w.heap.size 4 hz1 hpn).trans q4
 replace q5:=(hc w.heap.size 5 hz1 hpn).trans q5
 replace q6:=(hc w.heap.size 6 hz1 hpn).trans q6
 have hz2:w.heap.size < w2.heap.size:=by have:=hs.grown.size;omega
 have HS2:=Hm (WrStep.trans HS1.o hs)
 have HW2:=Hm hs.wr
 clear hs hc hz1
 go_wp2
 go_end0
 refine⟨rfl,grownBy_trans (grownBy_below HB0.o) HS2.o.grown,?_⟩
 have:=HS2.o.wr
 simpa [encIns,List.append_assoc] using this
theorem wins_3 (p:Nat) (l:List UInt8) (op d a b n:Int) (args:List Int) (A:Option Addr) (c:Nat) (w:World) (h:WrAt w p l) (hI:Ints w A args) (hA:0 < args.length→∀ x,A=some x→x.block≠p)
  (ho:0≤op∧op < 4096) (hd:0≤d∧d < 4096) (ha:0≤a∧a < 4096) (hb:0≤b∧b < 4096) (hn:-9223372036854775808≤n∧n≤9223372036854775807) (hargs:∀ x∈args,0≤x∧x < 4096) (hlen:args.length≤3) (hl:l.length≤9000000) :
  Calls Tryz.prog 146 #[.pointer (some ⟨p,0,none⟩),.agg #[.int .u8 3,.int .u8 op,.int .i64 d,.int .i64 a,.int .i64 b,.int .i64 n,.slice A args.length c]] w λe w'=>e=.returned (.tuple #[])∧WrStep w w' p (l++encIns ⟨3,op,d,a,b,n,args⟩):=by
 have hp:=h.lt
 have hpn:w.heap.size≠p:=by omega
 obtain⟨w0,hw0⟩:∃ w0,w0=w.alloc (.cells #[.int .u8 3,.int .u8 op,.int .i64 d,.int .i64 a,.int .i64 b,.int .i64 n,.slice A args.length c] 91):=⟨_,rfl⟩
 have HB0:=Hm (show Bel w w0 by rw[hw0];exact bA (bR w) _)
 have HW0:=Hm (h.below HB0.o)
 have HI0:=Hm (And.intro (hI.below HB0.o) hA)
 have HL:=Hm hl
 have HN:=Hm (And.intro ho (And.intro hd (And.intro ha (And.intro hb hargs))))
 have q0:w0.cell? ⟨w.heap.size,0,none⟩=some (.int .u8 3):=by rw[hw0];go_simp
 have q1:w0.cell? ⟨w.heap.size,1,none⟩=some (.int .u8 op):=by rw[hw0];go_simp
 have q2:w0.cell? ⟨w.heap.size,2,none⟩=some (.int .i64 d):=by rw[hw0];go_simp
 have q3:w0.cell? ⟨w.heap.size,3,none⟩=some (.int .i64 a):=by rw[hw0];go_simp
 have q4:w0.cell? ⟨w.heap.size,4,none⟩=some (.int .i64 b):=by rw[hw0];go_simp
 have q5:w0.cell? ⟨w.heap.size,5,none⟩=some (.int .i64 n):=by rw[hw0];go_simp
 have q6:w0.cell? ⟨w.heap.size,6,none⟩=some (.slice A args.length c):=by rw[hw0];go_simp
 have hz0:w.heap.size < w0.heap.size:=by rw[hw0];simp
 have HZ0:Hd (w.heap.size+1=w0.heap.size):=⟨by rw[hw0];simp⟩
 clear h hI hA hl hargs
 go_enter Tryz.func146,Tryz.ntmps146
 go_wp2_with fail
 rw[←hw0]
 clear hw0
 refine(nums_lit p _ [(3:Int)] _ _ _ HZ0.o rfl HW0.o (by simp<;>omega) (by have:=HL.o;simp only[List.length_append,List.length_cons,List.length_nil] at *;omega)).mono ?_
 rintro e w1 ⟨rfl,hs⟩
 have hc:=gcell hs.grown
 replace q0:=(hc w.heap.size 0 hz0 hpn).trans q0
 replace q1:=(hc w.heap.size 1 hz0 hpn).trans q1
 replace q2:=(hc w.heap.size 2 hz0 hpn).trans q2
 replace q3:=(hc w.heap.size 3 hz0 hpn).trans q3
 replace q4:=(hc w.heap.size 4 hz0 hpn).trans q4
 replace q5:=(hc w.heap.size 5 hz0 hpn).trans q5
 replace q6:=(hc w.heap.size 6 hz0 hpn).trans q6
 have hz1:w.heap.size < w1.heap.size:=by have:=hs.grown.size;omega
 have HS1:=Hm hs
 have HW1:=Hm hs.wr
 clear hs hc hz0
 go_wp2_with fail
 refine(nums_lit p _ [op,d,a,b] _ _ _ rfl rfl HW1.o (by simp<;>omega) (by have:=HL.o;have:=flatL_len [(3:Int)] (by simp<;>omega);simp only[List.length_append,List.length_cons,List.length_nil] at *;omega)).mono ?_
 rintro e w2 ⟨rfl,hs⟩
 have hc:=gcell hs.grown
 replace q0:=(hc w.heap.size 0 hz1 hpn).trans q0
 replace q1:=(hc w.heap.size 1 hz1 hpn).trans q1
 replace q2:=(hc w.heap.size 2 hz1 hpn).trans q2
 replace q3:=(hc w.heap.size 3 hz1 hpn).trans q3
 replace q4:=(hc w.heap.size 4 hz1 hpn).trans q4
 replace q5:=(hc w.heap.size 5 hz1 hpn).trans q5
 replace q6:=(hc w.heap.size 6 hz1 hpn).trans q6
 have hz2:w.heap.size < w2.heap.size:=by have:=hs.grown.size;omega
 have HS2:=Hm (WrStep.trans HS1.o hs)
 have HW2:=Hm hs.wr
 clear hs hc hz1
 go_wp2
 go_end0
 refine⟨rfl,grownBy_trans (grownBy_below HB0.o) HS2.o.grown,?_⟩
 have:=HS2.o.wr
 simpa [encIns,List.append_assoc] using this
theorem wins_5 (p:Nat) (l:List UInt8) (op d a b n:Int) (args:List Int) (A:Option Addr) (c:Nat) (w:World) (h:WrAt w p l) (hI:Ints w A args) (hA:0 < args.length→∀ x,A=some x→x.block≠p)
  (ho:0≤op∧op < 4096) (hd:0≤d∧d < 4096) (ha:0≤a∧a < 4096) (hb:0≤b∧b < 4096) (hn:-9223372036854775808≤n∧n≤9223372036854775807) (hargs:∀ x∈args,0≤x∧x < 4096) (hlen:args.length≤3) (hl:l.length≤9000000) :
  Calls Tryz.prog 146 #[.pointer (some ⟨p,0,none⟩),.agg #[.int .u8 5,.int .u8 op,.int .i64 d,.int .i64 a,.int .i64 b,.int .i64 n,.slice A args.length c]] w λe w'=>e=.returned (.tuple #[])∧WrStep w w' p (l++encIns ⟨5,op,d,a,b,n,args⟩):=by
 have hp:=h.lt
 have hpn:w.heap.size≠p:=by omega
 obtain⟨w0,hw0⟩:∃ w0,w0=w.alloc (.cells #[.int .u8 5,.int .u8 op,.int .i64 d,.int .i64 a,.int .i64 b,.int .i64 n,.slice A args.length c] 91):=⟨_,rfl⟩
 have HB0:=Hm (show Bel w w0 by rw[hw0];exact bA (bR w) _)
 have HW0:=Hm (h.below HB0.o)
 have HI0:=Hm (And.intro (hI.below HB0.o) hA)
 have HL:=Hm hl
 have HN:=Hm (And.intro ho (And.intro hd (And.intro ha (And.intro hb hargs))))
 have q0:w0.cell? ⟨w.heap.size,0,none⟩=some (.int .u8 5):=by rw[hw0];go_simp
 have q1:w0.cell? ⟨w.heap.size,1,none⟩=some (.int .u8 op):=by rw[hw0];go_simp
 have q2:w0.cell? ⟨w.heap.size,2,none⟩=some (.int .i64 d):=by rw[hw0];go_simp
 have q3:w0.cell? ⟨w.heap.size,3,none⟩=some (.int .i64 a):=by rw[hw0];go_simp
 have q4:w0.cell? ⟨w.heap.size,4,none⟩=some (.int .i64 b):=by rw[hw0];go_simp
 have q5:w0.cell? ⟨w.heap.size,5,none⟩=some (.int .i64 n):=by rw[hw0];go_simp
 have q6:w0.cell? ⟨w.heap.size,6,none⟩=some (.slice A args.length c):=by rw[hw0];go_simp
 have hz0:w.heap.size < w0.heap.size:=by rw[hw0];simp
 have HZ0:Hd (w.heap.size+1=w0.heap.size):=⟨by rw[hw0];simp⟩
 clear h hI hA hl hargs
 go_enter Tryz.func146,Tryz.ntmps146
 go_wp2_with fail
 rw[←hw0]
 clear hw0
 refine(nums_lit p _ [(5:Int)] _ _ _ HZ0.o rfl HW0.o (by simp<;>omega) (by have:=HL.o;simp only[List.length_append,List.length_cons,List.length_nil] at *;omega)).mono ?_
 rintro e w1 ⟨rfl,hs⟩
 have hc:=gcell hs.grown
 replace q0:=(hc w.heap.size 0 hz0 hpn).trans q0
 replace q1:=(hc w.heap.size 1 hz0 hpn).trans q1
 replace q2:=(hc w.heap.size 2 hz0 hpn).trans q2
 replace q3:=(hc w.heap.size 3 hz0 hpn).trans q3
 replace q4:=(hc w.heap.size 4 hz0 hpn).trans q4
 replace q5:=(hc w.heap.size 5 hz0 hpn).trans q5
 replace q6:=(hc w.heap.size 6 hz0 hpn).trans q6
 have hz1:w.heap.size < w1.heap.size:=by have:=hs.grown.size;omega
 have HS1:=Hm hs
 have HW1:=Hm hs.wr
 clear hs hc hz0
 go_wp2_with fail
 refine(nums_lit p _ [a,b] _ _ _ rfl rfl HW1.o (by simp<;>omega) (by have:=HL.o;have:=flatL_len [(5:Int)] (by simp<;>omega);simp only[List.length_append,List.length_cons,List.length_nil] at *;omega)).mono ?_
 rintro e w2 ⟨rfl,hs⟩
 have hc:=gcell hs.grown
 replace q0:=(hc w.heap.size 0 hz1 hpn).trans q0
 replace q1:=(hc w.heap.size 1 hz1 hpn).trans q1
 replace q2:=(hc w.heap.size 2 hz1 hpn).trans q2
 replace q3:=(hc w.heap.size 3 hz1 hpn).trans q3
 replace q4:=(hc w.heap.size 4 hz1 hpn).trans q4
 replace q5:=(hc w.heap.size 5 hz1 hpn).trans q5
 replace q6:=(hc w.heap.size 6 hz1 hpn).trans q6
 have hz2:w.heap.size < w2.heap.size:=by have:=hs.grown.size;omega
 have HS2:=Hm (WrStep.trans HS1.o hs)
 have HW2:=Hm hs.wr
 clear hs hc hz1
 go_wp2
 go_end0
 refine⟨rfl,grownBy_trans (grownBy_below HB0.o) HS2.o.grown,?_⟩
 have:=HS2.o.wr
 simpa [encIns,List.append_assoc] using this
theorem wins_6 (p:Nat) (l:List UInt8) (op d a b n:Int) (args:List Int) (A:Option Addr) (c:Nat) (w:World) (h:WrAt w p l) (hI:Ints w A args) (hA:0 < args.length→∀ x,A=some x→x.block≠p)
  (ho:0≤op∧op < 4096) (hd:0≤d∧d < 4096) (ha:0≤a∧a < 4096) (hb:0≤b∧b < 4096) (hn:-9223372036854775808≤n∧n≤9223372036854775807) (hargs:∀ x∈args,0≤x∧x < 4096) (hlen:args.length≤3) (hl:l.length≤9000000) :
  Calls Tryz.prog 146 #[.pointer (some ⟨p,0,none⟩),.agg #[.int .u8 6,.int .u8 op,.int .i64 d,.int .i64 a,.int .i64 b,.int .i64 n,.slice A args.length c]] w λe w'=>e=.returned (.tuple #[])∧WrStep w w' p (l++encIns ⟨6,op,d,a,b,n,args⟩):=by
 have hp:=h.lt
 have hpn:w.heap.size≠p:=by omega
 obtain⟨w0,hw0⟩:∃ w0,w0=w.alloc (.cells #[.int .u8 6,.int .u8 op,.int .i64 d,.int .i64 a,.int .i64 b,.int .i64 n,.slice A args.length c] 91):=⟨_,rfl⟩
 have HB0:=Hm (show Bel w w0 by rw[hw0];exact bA (bR w) _)
 have HW0:=Hm (h.below HB0.o)
 have HI0:=Hm (And.intro (hI.below HB0.o) hA)
 have HL:=Hm hl
 have HN:=Hm (And.intro ho (And.intro hd (And.intro ha (And.intro hb hargs))))
 have q0:w0.cell? ⟨w.heap.size,0,none⟩=some (.int .u8 6):=by rw[hw0];go_simp
 have q1:w0.cell? ⟨w.heap.size,1,none⟩=some (.int .u8 op):=by rw[hw0];go_simp
 have q2:w0.cell? ⟨w.heap.size,2,none⟩=some (.int .i64 d):=by rw[hw0];go_simp
 have q3:w0.cell? ⟨w.heap.size,3,none⟩=some (.int .i64 a):=by rw[hw0];go_simp
 have q4:w0.cell? ⟨w.heap.size,4,none⟩=some (.int .i64 b):=by rw[hw0];go_simp
 have q5:w0.cell? ⟨w.heap.size,5,none⟩=some (.int .i64 n):=by rw[hw0];go_simp
 have q6:w0.cell? ⟨w.heap.size,6,none⟩=some (.slice A args.length c):=by rw[hw0];go_simp
 have hz0:w.heap.size < w0.heap.size:=by rw[hw0];simp
 have HZ0:Hd (w.heap.size+1=w0.heap.size):=⟨by rw[hw0];simp⟩
 clear h hI hA hl hargs
 go_enter Tryz.func146,Tryz.ntmps146
 go_wp2_with fail
 rw[←hw0]
 clear hw0
 refine(nums_lit p _ [(6:Int)] _ _ _ HZ0.o rfl HW0.o (by simp<;>omega) (by have:=HL.o;simp only[List.length_append,List.length_cons,List.length_nil] at *;omega)).mono ?_
 rintro e w1 ⟨rfl,hs⟩
 have hc:=gcell hs.grown
 replace q0:=(hc w.heap.size 0 hz0 hpn).trans q0
 replace q1:=(hc w.heap.size 1 hz0 hpn).trans q1
 replace q2:=(hc w.heap.size 2 hz0 hpn).trans q2
 replace q3:=(hc w.heap.size 3 hz0 hpn).trans q3
 replace q4:=(hc w.heap.size 4 hz0 hpn).trans q4
 replace q5:=(hc w.heap.size 5 hz0 hpn).trans q5
 replace q6:=(hc w.heap.size 6 hz0 hpn).trans q6
 have hz1:w.heap.size < w1.heap.size:=by have:=hs.grown.size;omega
 have HS1:=Hm hs
 have HW1:=Hm hs.wr
 clear hs hc hz0
 go_wp2_with fail
 refine(nums_lit p _ [d] _ _ _ rfl rfl HW1.o (by simp<;>omega) (by have:=HL.o;have:=flatL_len [(6:Int)] (by simp<;>omega);simp only[List.length_append,List.length_cons,List.length_nil] at *;omega)).mono ?_
 rintro e w2 ⟨rfl,hs⟩
 have hc:=gcell hs.grown
 replace q0:=(hc w.heap.size 0 hz1 hpn).trans q0
 replace q1:=(hc w.heap.size 1 hz1 hpn).trans q1
 replace q2:=(hc w.heap.size 2 hz1 hpn).trans q2
 replace q3:=(hc w.heap.size 3 hz1 hpn).trans q3
 replace q4:=(hc w.heap.size 4 hz1 hpn).trans q4
 replace q5:=(hc w.heap.size 5 hz1 hpn).trans q5
 replace q6:=(hc w.heap.size 6 hz1 hpn).trans q6
 have hz2:w.heap.size < w2.heap.size:=by have:=hs.grown.size;omega
 have HS2:=Hm (WrStep.trans HS1.o hs)
 have HW2:=Hm hs.wr
 clear hs hc hz1
 go_wp2_with fail
 obtain⟨A3,ca3,hwi⟩:=HW2.o
 obtain⟨B,hB⟩:∃ B,l++flatL [(6:Int)]++flatL [d]=B:=⟨_,rfl⟩
 have hBl:B.length≤10000000:=by rw[←hB];have:=HL.o;have e1:=flatL_len [(6:Int)] (by simp);have e2:=flatL_len [d] (by simp;omega);simp only[List.length_append,List.length_cons,List.length_nil] at *;omega
 have HBE:=Hm hB
 rw[hB] at hwi
 have HWI:=Hm hwi
 have x0:=hwi.c0
 have x1:=hwi.free 0
 clear hwi hB
 refine rgn [.rd 0,.rd 1,.rd 2,.rd 3,.rd 4,.rd 5,.rd 6,.hv 7 [0],.rd 8,.rd 9,.hv 10 []] (n:=91) rfl ?_
 iterate 7 (refine line_rd rfl (λK hK=>?_);go_simp;refine hK _ ?_;clear hK K)
 refine line_hv rfl ?_
 go_wp2_with fail
 refine(putInt_any A3 ca3 B n (World.drew _) HWI.o.bytes hBl hn.1 hn.2).mono ?_
 rintro e w3 ⟨hb1,v1,rfl,ho1⟩
 obtain⟨A2,c2,rfl,-,-,-,-,-⟩:=own_row ho1
 have x2:=bCell (bU hb1) x0
 have x3:=bFree (bU hb1) x0 x1
 have r0:=bCell (bU hb1) q0
 have r1:=bCell (bU hb1) q1
 have r2:=bCell (bU hb1) q2
 have r3:=bCell (bU hb1) q3
 have r4:=bCell (bU hb1) q4
 have r5:=bCell (bU hb1) q5
 have r6:=bCell (bU hb1) q6
 have hzz:w.heap.size < w3.heap.size:=by have:=(bU hb1).size;omega
 have HB1:=Hm (bU hb1)
 have HO1:=Hm ho1
 clear hb1 ho1 x0 x1 q0 q1 q2 q3 q4 q5 q6
 go_wp2_with fail
 refine⟨?_,?_⟩
 ·simp only[Again,slotOf]
  go_simp
 iterate 2 (refine line_rd rfl (λK hK=>?_);go_simp;refine hK _ ?_;clear hK K)
 refine line_hv rfl ?_
 go_wp2_with fail
 refine⟨?_,?_⟩
 ·exact trivial
 unfold Line
 have hfin:WrStep w2 (w3.setCell ⟨p,0,none⟩ (.slice A2 (B++leb (zig n)).length c2)) p (l++flatL [(6:Int)]++flatL [d]++leb (zig n)):=by
  rw[HBE.o]
  exact⟨grownBy_trans (grownBy_below HB1.o) (grownBy_cell _ _ _ _),HWI.o.store HB1.o HO1.o⟩
 simp only[List.length_append] at hfin
 have HF:=Hm hfin
 clear hfin x2 x3
 have q0:(w3.setCell ⟨p,0,none⟩ (.slice A2 (B.length+(leb (zig n)).length) c2)).cell? ⟨w.heap.size,0,none⟩=_:=(cell_of_heap (a:=⟨w.heap.size,0,none⟩) (heap_setCell_other _ ⟨p,0,none⟩ w.heap.size _ hpn)).trans r0
 have q1:(w3.setCell ⟨p,0,none⟩ (.slice A2 (B.length+(leb (zig n)).length) c2)).cell? ⟨w.heap.size,1,none⟩=_:=(cell_of_heap (a:=⟨w.heap.size,1,none⟩) (heap_setCell_other _ ⟨p,0,none⟩ w.heap.size _ hpn)).trans r1
 have q2:(w3.setCell ⟨p,0,none⟩ (.slice A2 (B.length+(leb (zig n)).length) c2)).cell? ⟨w.heap.size,2,none⟩=_:=(cell_of_heap (a:=⟨w.heap.size,2,none⟩) (heap_setCell_other _ ⟨p,0,none⟩ w.heap.size _ hpn)).trans r2
 have q3:(w3.setCell ⟨p,0,none⟩ (.slice A2 (B.length+(leb (zig n)).length) c2)).cell? ⟨w.heap.size,3,none⟩=_:=(cell_of_heap (a:=⟨w.heap.size,3,none⟩) (heap_setCell_other _ ⟨p,0,none⟩ w.heap.size _ hpn)).trans r3
 have q4:(w3.setCell ⟨p,0,none⟩ (.slice A2 (B.length+(leb (zig n)).length) c2)).cell? ⟨w.heap.size,4,none⟩=_:=(cell_of_heap (a:=⟨w.heap.size,4,none⟩) (heap_setCell_other _ ⟨p,0,none⟩ w.heap.size _ hpn)).trans r4
 have q5:(w3.setCell ⟨p,0,none⟩ (.slice A2 (B.length+(leb (zig n)).length) c2)).cell? ⟨w.heap.size,5,none⟩=_:=(cell_of_heap (a:=⟨w.heap.size,5,none⟩) (heap_setCell_other _ ⟨p,0,none⟩ w.heap.size _ hpn)).trans r5
 have q6:(w3.setCell ⟨p,0,none⟩ (.slice A2 (B.length+(leb (zig n)).length) c2)).cell? ⟨w.heap.size,6,none⟩=_:=(cell_of_heap (a:=⟨w.heap.size,6,none⟩) (heap_setCell_other _ ⟨p,0,none⟩ w.heap.size _ hpn)).trans r6
 have hz3:w.heap.size < (w3.setCell ⟨p,0,none⟩ (.slice A2 (B.length+(leb (zig n)).length) c2)).heap.size:=by simpa using hzz
 obtain⟨ws,hws⟩:∃ ws,ws=w3.setCell ⟨p,0,none⟩ (.slice A2 (B.length+(leb (zig n)).length) c2):=⟨_,rfl⟩
 rw[←hws] at HF q0 q1 q2 q3 q4 q5 q6 hz3⊢
 clear hws r0 r1 r2 r3 r4 r5 r6 hzz hz2 HO1 HWI
 clear HB1
 have HS3:=Hm (WrStep.trans HS2.o HF.o)
 have HW3:=Hm HF.o.wr
 go_wp2_with fail
 refine(nums_lit p _ [(args.length:Int)] _ _ _ rfl rfl HW3.o (by simp<;>omega) (by have:=HL.o;have:=flatL_len [(6:Int)] (by simp<;>omega);have:=flatL_len [d] (by simp<;>omega);have:=leb_len10 (zig_lt n hn.1 hn.2);simp only[List.length_append,List.length_cons,List.length_nil] at *;omega)).mono ?_
 rintro e w4 ⟨rfl,hs⟩
 have hc:=gcell hs.grown
 replace q0:=(hc w.heap.size 0 hz3 hpn).trans q0
 replace q1:=(hc w.heap.size 1 hz3 hpn).trans q1
 replace q2:=(hc w.heap.size 2 hz3 hpn).trans q2
 replace q3:=(hc w.heap.size 3 hz3 hpn).trans q3
 replace q4:=(hc w.heap.size 4 hz3 hpn).trans q4
 replace q5:=(hc w.heap.size 5 hz3 hpn).trans q5
 replace q6:=(hc w.heap.size 6 hz3 hpn).trans q6
 have hz4:w.heap.size < w4.heap.size:=by have:=hs.grown.size;omega
 have HS4:=Hm (WrStep.trans HS3.o hs)
 have HW4:=Hm hs.wr
 clear hs hc hz3
 go_wp2_with fail
 refine(nums_any p _ args A c _ HW4.o (ints_grown HI0.o.1 HS4.o.grown HI0.o.2) HI0.o.2 (λx hx=>by have:=HN.o.2.2.2.2 x hx;omega) (by have:=HL.o;have:=flatL_len [(6:Int)] (by simp<;>omega);have:=flatL_len [d] (by simp<;>omega);have:=flatL_len [(args.length:Int)] (by simp<;>omega);have:=leb_len10 (zig_lt n hn.1 hn.2);simp only[List.length_append,List.length_cons,List.length_nil] at *;omega)).mono ?_
 rintro e w5 ⟨rfl,hs⟩
 have hc:=gcell hs.grown
 replace q0:=(hc w.heap.size 0 hz4 hpn).trans q0
 replace q1:=(hc w.heap.size 1 hz4 hpn).trans q1
 replace q2:=(hc w.heap.size 2 hz4 hpn).trans q2
 replace q3:=(hc w.heap.size 3 hz4 hpn).trans q3
 replace q4:=(hc w.heap.size 4 hz4 hpn).trans q4
 replace q5:=(hc w.heap.size 5 hz4 hpn).trans q5
 replace q6:=(hc w.heap.size 6 hz4 hpn).trans q6
 have hz5:w.heap.size < w5.heap.size:=by have:=hs.grown.size;omega
 have HS5:=Hm (WrStep.trans HS4.o hs)
 have HW5:=Hm hs.wr
 clear hs hc hz4
 go_wp2
 go_end0
 refine⟨rfl,grownBy_trans (grownBy_below HB0.o) HS5.o.grown,?_⟩
 have:=HS5.o.wr
 simpa [encIns,List.append_assoc] using this
structure InsFine (i:Ins):Prop extends InsSmall i where
 k1:1≤i.kind
 k8:i.kind≤8
theorem wins_any (p:Nat) (l:List UInt8) (i:Ins) (A:Option Addr) (c:Nat) (w:World) (h:WrAt w p l) (hI:Ints w A i.args) (hA:0 < i.args.length→∀ x,A=some x→x.block≠p) (hi:InsFine i) (hl:l.length≤9000000) :
  Calls Tryz.prog 146 #[.pointer (some ⟨p,0,none⟩),insV i (.slice A i.args.length c)] w λe w'=>e=.returned (.tuple #[])∧WrStep w w' p (l++encIns i):=by
 obtain⟨k,op,d,a,b,n,args⟩:=i
 obtain⟨⟨ho,hd,ha,hb,hn,hargs,hlen⟩,k1,k8⟩:=hi
 simp only at *
 have:k=1∨k=2∨k=3∨k=4∨k=5∨k=6∨k=7∨k=8:=by omega
 rcases this with rfl|rfl|rfl|rfl|rfl|rfl|rfl|rfl
 ·exact wins_1 p l op d a b n args A c w h hI hA ho hd ha hb hn hargs hlen hl
 ·exact wins_2 p l op d a b n args A c w h hI hA ho hd ha hb hn hargs hlen hl
 ·exact wins_3 p l op d a b n args A c w h hI hA ho hd ha hb hn hargs hlen hl
 ·exact wins_4 p l op d a b n args A c w h hI hA ho hd ha hb hn hargs hlen hl
 ·exact wins_5 p l op d a b n args A c w h hI hA ho hd ha hb hn hargs hlen hl
 ·exact wins_6 p l op d a b n args A c w h hI hA ho hd ha hb hn hargs hlen hl
 ·exact wins_7 p l op d a b n args A c w h hI hA ho hd ha hb hn hargs hlen hl
 ·exact wins_8 p l op d a b n args A c w h hI hA ho hd ha hb hn hargs hlen hl
theorem encIns_len {i:Ins} (h:InsFine i):(encIns i).length≤100:=by
 have hz:=leb_len10 (zig_lt i.n h.n.1 h.n.2)
 have hk:=flatL_len [i.kind] (by have:=h.k1;have:=h.k8;simp;omega)
 have h1:=flatL_len [i.d] (by have:=h.d;simp;omega)
 have h2:=flatL_len [i.d,i.a] (by have:=h.d;have:=h.a;simp;omega)
 have h3:=flatL_len [i.op,i.d,i.a,i.b] (by have:=h.d;have:=h.a;have:=h.b;have:=h.op;simp;omega)
 have h4:=flatL_len [i.a,i.b] (by have:=h.a;have:=h.b;simp;omega)
 have h5:=flatL_len [(i.args.length:Int)] (by have:=h.len;simp;omega)
 have h6:=flatL_len i.args (λx hx=>by have:=h.args x hx;omega)
 have hl:=h.len
 simp only[List.length_cons,List.length_nil] at *
 unfold encIns
 rw[List.length_append]
 repeat' split
 all_goals first|omega|(simp only[List.length_append,List.length_nil];omega)
def encEnd (e:End):List UInt8:=flatL [e.kind]++if e.kind=1 then flatL [e.to_] else if e.kind=2 then flatL [e.a,e.to_,e.else_] else flatL [e.a]
def encBlock (b:Block):List UInt8:=flatL [(b.ins.length:Int)]++b.ins.flatMap encIns++encEnd b.fin
def encBlocks (l:List Block):List UInt8:=flatL [(l.length:Int)]++l.flatMap encBlock
structure EndFine (e:End):Prop where
 k1:1≤e.kind
 k3:e.kind≤3
 a:0≤e.a∧e.a < 4096
 to_:0≤e.to_∧e.to_ < 4096
 else_:0≤e.else_∧e.else_ < 4096
structure BlockFine (b:Block):Prop where
 len:b.ins.length≤400
 ins:∀ i∈b.ins,InsFine i
 fin:EndFine b.fin
theorem flatIns_len:∀ (l:List Ins),(∀ i∈l,InsFine i)→(l.flatMap encIns).length≤100*l.length
 |[],_=>by simp
 |i :: l,h=>by
  have h1:=encIns_len (h i (by simp))
  have h2:=flatIns_len l λm hm=>h m (by simp[hm])
  simp only[List.flatMap_cons,List.length_append,List.length_cons] at *
  omega
theorem encEnd_len {e:End} (h:EndFine e):(encEnd e).length≤40:=by
 have hk:=flatL_len [e.kind] (by have:=h.k1;have:=h.k3;simp;omega)
 have h1:=flatL_len [e.to_] (by have:=h.to_;simp;omega)
 have h2:=flatL_len [e.a,e.to_,e.else_] (by have:=h.to_;have:=h.a;have:=h.else_;simp;omega)
 have h3:=flatL_len [e.a] (by have:=h.a;simp;omega)
 simp only[List.length_cons,List.length_nil] at *
 unfold encEnd
 rw[List.length_append]
 repeat' split
 all_goals omega
theorem encBlock_len {b:Block} (h:BlockFine b):(encBlock b).length≤40050:=by
 have h1:=flatL_len [(b.ins.length:Int)] (by have:=h.len;simp;omega)
 have h2:=flatIns_len b.ins h.ins
 have h3:=encEnd_len h.fin
 have h4:=h.len
 simp only[encBlock,List.length_append,List.length_cons,List.length_nil] at *
 omega
theorem flatBlock_len:∀ (l:List Block),(∀ b∈l,BlockFine b)→(l.flatMap encBlock).length≤40050*l.length
 |[],_=>by simp
 |b :: l,h=>by
  have h1:=encBlock_len (h b (by simp))
  have h2:=flatBlock_len l λm hm=>h m (by simp[hm])
  simp only[List.flatMap_cons,List.length_append,List.length_cons] at *
  omega
theorem fm_snoc {α:Type} (f:α→List UInt8) (l:List α) (j:Nat) (h:j < l.length):(l.take (j+1)).flatMap f=(l.take j).flatMap f++f l[j]:=by
 rw[take_snoc' l j h,List.flatMap_append];simp[List.flatMap_cons]
theorem gOne {W w1:World} {p b k:Nat} {v:Value} (hg:W.grownBy w1 (some p)) (hne:b≠p) (hc:W.cell? ⟨b,k,none⟩=some v):w1.cell? ⟨b,k,none⟩=some v :=
 (gcell hg b k (World.block_lt_of_cell? W _ hc) hne).trans hc
theorem wblocks_any (p:Nat) (l:List UInt8) (ls:List Block) (ok:Nat→Prop) (v:Value) (w:World) (h:WrAt w p l) (hok:∀ b,ok b→b≠p) (hv:Kd.SK kBlock w ok ls v) (hf:∀ b∈ls,BlockFine b) (h16:ls.length≤16) (hl:l.length≤1000) :
  Calls Tryz.prog 119 #[.pointer (some ⟨p,0,none⟩),v] w λe w'=>e=.returned (.tuple #[])∧WrStep w w' p (l++encBlocks ls):=by
 obtain⟨A,c,rfl,-,-⟩:=sk_form hv
 have H0:=Hm h
 have HV:=Hm hv
 have HF:=Hm hf
 have HOk:=Hm hok
 have hp:=h.lt
 have hpn:w.heap.size≠p:=by omega
 clear h hv hf hok
 go_enter Tryz.func119,Tryz.ntmps119
 go_wp2_with fail
 refine(nums_lit p l [(ls.length:Int)] _ _ _ rfl rfl H0.o (by simp;omega) (by simp;omega)).mono ?_
 rintro e w0 ⟨rfl,hs⟩
 have HS0:=Hm hs
 clear hs
 have HL0:Hd ((l++flatL [(ls.length:Int)]).length≤1010):=⟨by
  have:=flatL_len [(ls.length:Int)] (by simp;omega)
  simp only[List.length_append,List.length_cons,List.length_nil] at *;omega⟩
 go_wp2_with fail
 go_loopw [15] (λi wr=>∃ j:Nat,j≤ls.length∧i=.int .i64 j∧WrStep w wr p (l++flatL [(ls.length:Int)]++(ls.take j).flatMap encBlock)) (λi _=>ls.length-(intOf i).toNat)
 case atStart=>exact⟨0,Nat.zero_le _,rfl,by simpa using HS0.o⟩
 case round =>
  obtain⟨j,hj,rfl,hs⟩:=hrel
  have HS:=Hm hs
  clear hs
  by_cases hlt:j < ls.length
  ·obtain⟨blk,off,c',v1,e,hob,-,hsk,x0,x1,x2,x3,x4⟩:=sk_block (HV.o.stay (Stays.grown HS.o.grown λb hb e=>HOk.o b hb (by simpa using e))) j hlt
   simp only[Value.slice.injEq] at e
   obtain⟨rfl,-,rfl⟩:=e
   have hbp:=HOk.o _ hob
   have hx:=HF.o _ (List.getElem_mem hlt)
   have HT:=Hm (fm_snoc encBlock ls j hlt)
   have hBl:(l++flatL [(ls.length:Int)]++(ls.take j).flatMap encBlock).length≤700000:=by
    have h1:=HL0.o
    have h2:=flatBlock_len (ls.take j) (λb hb=>HF.o b (List.mem_of_mem_take hb))
    simp only[List.length_append,List.length_take] at *
    omega
   have HBl:=Hm hBl
   clear hBl
   generalize ls[j]=x at *
   obtain⟨B,hB⟩:∃ B,l++flatL [(ls.length:Int)]++(ls.take j).flatMap encBlock=B:=⟨_,rfl⟩
   rw[hB] at HS HBl
   have HBE:=Hm hB
   clear hB
   obtain⟨A1,c1,rfl,-,-⟩:=sk_form hsk
   have HX:=Hm hx
   have HSk:=Hm hsk
   have hx31:x.ins.length≤400:=hx.len
   clear hx hsk
   have hprp:p < wr.heap.size:=HS.o.wr.lt
   have hqp:wr.heap.size≠p:=by omega
   obtain⟨w1,hw1⟩:∃ w1,w1=wr.alloc (.cells #[.slice A1 x.ins.length c1,.int .u8 x.fin.kind,.int .i64 x.fin.a,.int .i64 x.fin.to_,.int .i64 x.fin.else_] 97):=⟨_,rfl⟩
   have HB1:Hd (Bel wr w1):=⟨by rw[hw1];exact bA (bR _) _⟩
   have hz1:wr.heap.size < w1.heap.size:=by rw[hw1];simp
   have HZ1:Hd (wr.heap.size+1=w1.heap.size):=⟨by rw[hw1];simp⟩
   have y0:w1.cell? ⟨wr.heap.size,0,none⟩=some (.slice A1 x.ins.length c1):=by rw[hw1];go_simp
   have y1:w1.cell? ⟨wr.heap.size,1,none⟩=some (.int .u8 x.fin.kind):=by rw[hw1];go_simp
   have y2:w1.cell? ⟨wr.heap.size,2,none⟩=some (.int .i64 x.fin.a):=by rw[hw1];go_simp
   have y3:w1.cell? ⟨wr.heap.size,3,none⟩=some (.int .i64 x.fin.to_):=by rw[hw1];go_simp
   have y4:w1.cell? ⟨wr.heap.size,4,none⟩=some (.int .i64 x.fin.else_):=by rw[hw1];go_simp
   have HY1:=Hm (And.intro y0 (And.intro y1 (And.intro y2 (And.intro y3 y4))))
   clear y0 y1 y2 y3 y4
   go_wp2_with fail
   rw[←hw1]
   clear hw1 x0 x1 x2 x3 x4
   refine(nums_lit p B [(x.ins.length:Int)] _ _ _ HZ1.o rfl (HS.o.wr.below HB1.o) (by simp;omega) (by have:=HBl.o;simp;omega)).mono ?_
   rintro e w2 ⟨rfl,hs⟩
   have HS2:=Hm (WrStep.trans HS.o (WrStep.bel HB1.o hs))
   have HY2:=Hm (And.intro (gOne hs.grown hqp HY1.o.1) (And.intro (gOne hs.grown hqp HY1.o.2.1) (And.intro (gOne hs.grown hqp HY1.o.2.2.1) (And.intro (gOne hs.grown hqp HY1.o.2.2.2.1) (gOne hs.grown hqp HY1.o.2.2.2.2)))))
   have HSk2:=Hm (Kd.SK.stay (sk_bel HSk.o HB1.o) (Stays.grown hs.grown λb hb e=>HOk.o b hb (by simpa using e)))
   have hz2:wr.heap.size < w2.heap.size:=by have:=hs.grown.size;omega
   have HL2:Hd ((B++flatL [(x.ins.length:Int)]).length≤700010):=⟨by
    have:=flatL_len [(x.ins.length:Int)] (by simp;omega)
    have:=HBl.o
    simp only[List.length_append,List.length_cons,List.length_nil] at *;omega⟩
   clear hs hz1
   obtain⟨wo,rfl⟩:∃ wo:World,wo=wr:=⟨_,rfl⟩
   have y0:=HY2.o.1
   go_wp2_with fail
   clear y0
   go_loopw [28] (λi wr=>∃ k:Nat,k≤x.ins.length∧i=.int .i64 k∧WrStep w2 wr p (B++flatL [(x.ins.length:Int)]++(x.ins.take k).flatMap encIns)) (λi _=>x.ins.length-(intOf i).toNat)
   case atStart=>exact⟨0,Nat.zero_le _,rfl,grownBy_refl _ _,by simpa using HS2.o.wr⟩
   case round =>
    obtain⟨k,hk,rfl,hs⟩:=hrel
    have HSi:=Hm hs
    clear hs
    have hpi:p < wr.heap.size:=HSi.o.wr.lt
    have hzi:wo.heap.size < wr.heap.size:=by have:=HSi.o.grown.size;omega
    have hLi:(B++flatL [(x.ins.length:Int)]++(x.ins.take k).flatMap encIns).length≤800000:=by
     have h1:=HL2.o
     have h2:=flatIns_len (x.ins.take k) (λb hb=>HX.o.ins b (List.mem_of_mem_take hb))
     simp only[List.length_append,List.length_take] at *
     omega
    have HLi:=Hm hLi
    clear hLi
    by_cases hkt:k < x.ins.length
    ·obtain⟨blk2,off2,c2,v2,e,hob2,-,hsk2,z0,z1,z2,z3,z4,z5,z6⟩:=sk_ins (HSk2.o.stay (Stays.grown HSi.o.grown λb hb e=>HOk.o b hb (by simpa using e))) k hkt
     simp only[Value.slice.injEq] at e
     obtain⟨rfl,-,rfl⟩:=e
     have hy:=HX.o.ins _ (List.getElem_mem hkt)
     have HT2:=Hm (fm_snoc encIns x.ins k hkt)
     generalize x.ins[k]=y at *
     obtain⟨A2,c2,rfl,-,-,hI2,-,hAok⟩:=ski hsk2
     have hA2:0 < y.args.length→∀ a,A2=some a→a.block≠p:=λh0 a ha=>HOk.o _ (hAok h0 a ha)
     have HW:=Hm (λ(w':World) (hb:Bel wr w')=>wins_any p (B++flatL [(x.ins.length:Int)]++(x.ins.take k).flatMap encIns) y A2 c2 w' (HSi.o.wr.below hb) (hI2.below hb) hA2 hy (by have:=HLi.o;omega))
     clear hy hsk2 hI2 hA2 hAok
     unfold insV at HW
     go_wp2_with fail
     refine(HW.o _ (bA (bR _) _)).mono ?_
     rintro e w3 ⟨rfl,hs3⟩
     have HS3:Hd (WrStep w2 w3 p (B++flatL [(x.ins.length:Int)]++(x.ins.take (k+1)).flatMap encIns)):=⟨by
      rw[HT2.o,←List.append_assoc]
      exact WrStep.trans HSi.o (WrStep.bel (bA (bR _) _) hs3)⟩
     clear hs3 z0 z1 z2 z3 z4 z5 z6
     go_wp2_with fail
     go_roundw
     case rel=>exact⟨k+1,by omega,by go_num,HS3.o⟩
     case measure=>simp[intOf];omega
    ·obtain rfl:k=x.ins.length:=by omega
     have hwi:=HSi.o.wr
     rw[List.take_of_length_le (Nat.le_refl _)] at HLi hwi
     have HWi:=Hm hwi
     have HG:=Hm (grownBy_trans HS2.o.grown HSi.o.grown)
     have HFin:=Hm HX.o.fin
     have y1:=gOne HSi.o.grown hqp HY2.o.2.1
     have y2:=gOne HSi.o.grown hqp HY2.o.2.2.1
     have y3:=gOne HSi.o.grown hqp HY2.o.2.2.2.1
     have y4:=gOne HSi.o.grown hqp HY2.o.2.2.2.2
     have hend:∀ w':World,w.grownBy w' (some p)→WrAt w' p (B++flatL [(x.ins.length:Int)]++x.ins.flatMap encIns++encEnd x.fin)→WrStep w w' p (l++flatL [(ls.length:Int)]++(ls.take (j+1)).flatMap encBlock):=by
      intro w' hg hw
      rw[HT.o,←List.append_assoc,HBE.o]
      exact⟨hg,by simpa [encBlock,List.append_assoc] using hw⟩
     have HEnd:=Hm hend
     clear hwi hend HSi
     obtain⟨C,hC⟩:∃ C,B++flatL [(x.ins.length:Int)]++x.ins.flatMap encIns=C:=⟨_,rfl⟩
     rw[hC] at HWi HLi HEnd
     clear hC
     rcases hxf:x.fin with ⟨fk,fa,ft,fe⟩
     rw[hxf] at y1 y2 y3 y4 HFin HEnd
     simp only at y1 y2 y3 y4
     clear hxf
     have hk:fk=1∨fk=2∨fk=3:=by have h1:=HFin.o.k1;have h3:=HFin.o.k3;simp only at h1 h3;omega
     rcases hk with rfl|rfl|rfl
     ·have HEE:Hd (encEnd ⟨1,fa,ft,fe⟩=flatL [(1:Int)]++flatL [ft]):=⟨by simp[encEnd]⟩
      go_wp2_with fail
      refine(nums_lit p C [(1:Int)] _ _ _ rfl rfl HWi.o (by simp) (by have:=HLi.o;simp;omega)).mono ?_
      rintro e w3 ⟨rfl,hs3⟩
      have z1:=gOne hs3.grown hqp y1
      have z2:=gOne hs3.grown hqp y2
      have z3:=gOne hs3.grown hqp y3
      have z4:=gOne hs3.grown hqp y4
      have HS3:=Hm hs3
      clear hs3 y1 y2 y3 y4
      go_wp2_with fail
      refine(nums_lit p _ [ft] _ _ _ rfl rfl HS3.o.wr (by have h1:=HFin.o.a;have h2:=HFin.o.to_;have h3:=HFin.o.else_;simp at h1 h2 h3⊢<;>omega) (by have:=HLi.o;have:=flatL_len [(1:Int)] (by simp);simp only[List.length_append,List.length_cons,List.length_nil] at *;omega)).mono ?_
      rintro e w4 ⟨rfl,hs4⟩
      have HS4:Hd (WrStep w w4 p (l++flatL [(ls.length:Int)]++(ls.take (j+1)).flatMap encBlock)):=⟨HEnd.o w4 (grownBy_trans HG.o (grownBy_trans HS3.o.grown hs4.grown)) (by rw[HEE.o,←List.append_assoc];exact hs4.wr)⟩
      clear hs4 z1 z2 z3 z4
      go_wp2_with fail
      go_roundw
      case rel=>exact⟨j+1,by omega,by go_num,HS4.o⟩
      case measure=>simp[intOf];omega
     ·have HEE:Hd (encEnd ⟨2,fa,ft,fe⟩=flatL [(2:Int)]++flatL [fa,ft,fe]):=⟨by simp[encEnd]⟩
      go_wp2_with fail
      refine(nums_lit p C [(2:Int)] _ _ _ rfl rfl HWi.o (by simp) (by have:=HLi.o;simp;omega)).mono ?_
      rintro e w3 ⟨rfl,hs3⟩
      have z1:=gOne hs3.grown hqp y1
      have z2:=gOne hs3.grown hqp y2
      have z3:=gOne hs3.grown hqp y3
      have z4:=gOne hs3.grown hqp y4
      have HS3:=Hm hs3
      clear hs3 y1 y2 y3 y4
      go_wp2_with fail
      refine(nums_lit p _ [fa,ft,fe] _ _ _ rfl rfl HS3.o.wr (by have h1:=HFin.o.a;have h2:=HFin.o.to_;have h3:=HFin.o.else_;simp at h1 h2 h3⊢<;>omega) (by have:=HLi.o;have:=flatL_len [(2:Int)] (by simp);simp only[List.length_append,List.length_cons,List.length_nil] at *;omega)).mono ?_
      rintro e w4 ⟨rfl,hs4⟩
      have HS4:Hd (WrStep w w4 p (l++flatL [(ls.length:Int)]++(ls.take (j+1)).flatMap encBlock)):=⟨HEnd.o w4 (grownBy_trans HG.o (grownBy_trans HS3.o.grown hs4.grown)) (by rw[HEE.o,←List.append_assoc];exact hs4.wr)⟩
      clear hs4 z1 z2 z3 z4
      go_wp2_with fail
      go_roundw
      case rel=>exact⟨j+1,by omega,by go_num,HS4.o⟩
      case measure=>simp[intOf];omega
     ·have HEE:Hd (encEnd ⟨3,fa,ft,fe⟩=flatL [(3:Int)]++flatL [fa]):=⟨by simp[encEnd]⟩
      go_wp2_with fail
      refine(nums_lit p C [(3:Int)] _ _ _ rfl rfl HWi.o (by simp) (by have:=HLi.o;simp;omega)).mono ?_
      rintro e w3 ⟨rfl,hs3⟩
      have z1:=gOne hs3.grown hqp y1
      have z2:=gOne hs3.grown hqp y2
      have z3:=gOne hs3.grown hqp y3
      have z4:=gOne hs3.grown hqp y4
      have HS3:=Hm hs3
      clear hs3 y1 y2 y3 y4
      go_wp2_with fail
      refine(nums_lit p _ [fa] _ _ _ rfl rfl HS3.o.wr (by have h1:=HFin.o.a;have h2:=HFin.o.to_;have h3:=HFin.o.else_;simp at h1 h2 h3⊢<;>omega) (by have:=HLi.o;have:=flatL_len [(3:Int)] (by simp);simp only[List.length_append,List.length_cons,List.length_nil] at *;omega)).mono ?_
      rintro e w4 ⟨rfl,hs4⟩
      have HS4:Hd (WrStep w w4 p (l++flatL [(ls.length:Int)]++(ls.take (j+1)).flatMap encBlock)):=⟨HEnd.o w4 (grownBy_trans HG.o (grownBy_trans HS3.o.grown hs4.grown)) (by rw[HEE.o,←List.append_assoc];exact hs4.wr)⟩
      clear hs4 z1 z2 z3 z4
      go_wp2_with fail
      go_roundw
      case rel=>exact⟨j+1,by omega,by go_num,HS4.o⟩
      case measure=>simp[intOf];omega
  ·go_wp2
   go_end0
   have:=HS.o
   rw[List.take_of_length_le (by omega)] at this
   exact⟨rfl,by simpa [encBlocks,List.append_assoc] using this⟩
end Go.Proofs.YtjkgligohegaeaaGreatDoor
