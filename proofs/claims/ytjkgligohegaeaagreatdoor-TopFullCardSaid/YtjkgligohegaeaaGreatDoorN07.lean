/- Lemmas of the row. -/
import Derived.Test.YtjkgligohegaeaaGreatDoorN06
set_option linter.all false
set_option maxRecDepth 20000
set_option maxHeartbeats 12800000
namespace Go.Proofs.YtjkgligohegaeaaGreatDoor
open Go.RowKit
theorem rins_1 (p:Nat) (rest:List UInt8) (d:Nat) (n:Int) (w:World) (h:RdAt w p (leb 1++(leb d++(leb (zig n)++(rest)))) 0) (hd:d < 4096) (hn:-9223372036854775808≤n∧n≤9223372036854775807) (hl:(leb 1++(leb d++(leb (zig n)++(rest)))).length≤10000000) :
  Calls Tryz.prog 122 #[.pointer (some ⟨p,0,none⟩)] w λe w'=>e=.returned (.agg #[.int .u8 1,.int .u8 0,.int .i64 (d:Nat),.int .i64 0,.int .i64 0,.int .i64 n,.slice none 0 0])∧RdStep w w' p rest 0:=by
 have hp:=h.lt
 have HRd:=Hm h
 have HL:=Hm hl
 simp only[List.length_append] at hl
 have HLN:=Hm hl
 clear h hl
 go_enter Tryz.func122,Tryz.ntmps122
 go_wp2_with fail
 refine(below_leb p 1 _ 256 _ (HRd.o.below (bA (bA (bR _) _) _)) (by omega) (by omega) HL.o).mono ?_
 rintro e X1 ⟨rfl,hs⟩
 obtain⟨hz1,hR0⟩:=ri_begin [.int .u8 1,.int .u8 0,.int .i64 0,.int .i64 0,.int .i64 0,.int .i64 0,.slice none 0 0] hp hs
 have HR:=Hm hR0
 have HZ1:=Hm hz1
 clear hR0 hs HRd
 obtain⟨bi,hbi⟩:∃ bi,bi=X1.heap.size:=⟨_,rfl⟩
 have b0:=HR.o.b0
 go_wp2_with fail
 clear b0
 obtain⟨X,hX⟩:∃ X,X=X1.alloc (.cells #[.int .u8 1,.int .u8 0,.int .i64 0,.int .i64 0,.int .i64 0,.int .i64 0,.slice none 0 0] 91):=⟨_,rfl⟩
 rw[←hX] at HR⊢
 rw[←hbi] at HR⊢
 clear hX hbi HZ1 hz1
 refine(num150 w.heap.size p d (leb (zig n)++(rest)) X HR.o.b0 HR.o.rd hd (by have:=HLN.o;simp only[List.length_append] at this⊢;omega)).mono ?_
 rintro e X' ⟨rfl,hs⟩
 have HR':=Hm (HR.o.step hs)
 have b0:=HR'.o.b0
 have v0:X'.cell? ⟨bi,2,none⟩=some (.int .i64 0):=by rw[cell_at HR'.o.var];rfl
 have f0:=free_at HR'.o.var 2
 have HR2:=Hm (HR'.o.set 2 (.int .i64 d))
 simp only[List.set_cons_zero,List.set_cons_succ] at HR2
 clear hs HR HR'
 go_wp2_with fail
 obtain⟨X,hX⟩:∃ X,X=X'.setCell ⟨bi,2,none⟩ (.int .i64 d):=⟨_,rfl⟩
 rw[←hX] at HR2⊢
 clear hX b0 v0 f0
 have HR:=HR2
 clear HR2
 refine(int_leb p n (rest) X HR.o.rd hn (by have:=HLN.o;simp only[List.length_append] at this⊢;omega)).mono ?_
 rintro e X' ⟨rfl,hs⟩
 have HR':=Hm (HR.o.step hs)
 have b0:=HR'.o.b0
 have v0:X'.cell? ⟨bi,5,none⟩=some (.int .i64 0):=by rw[cell_at HR'.o.var];rfl
 have f0:=free_at HR'.o.var 5
 have HR2:=Hm (HR'.o.set 5 (.int .i64 n))
 simp only[List.set_cons_zero,List.set_cons_succ] at HR2
 clear hs HR HR'
 obtain⟨X,hX⟩:∃ X,X=X'.setCell ⟨bi,5,none⟩ (.int .i64 n):=⟨_,rfl⟩
 have HX:=Hm hX
 rw[←hX] at HR2
 clear hX
 have hh:=HR2.o.var
 rw[HX.o] at hh
 obtain⟨c0,c1,c2,c3,c4,c5,c6⟩:=cC7 hh
 clear hh
 have hh:=HR2.o.res
 rw[HX.o] at hh
 obtain⟨z0,z1,z2,z3,z4,z5,z6⟩:=cC7 hh
 clear hh
 have hh:=HR2.o.res
 rw[HX.o] at hh
 obtain⟨g0,g1,g2,g3,g4,g5,g6⟩:=fF7 hh
 clear hh
 have HFin:=Hm (((((((HR2.o.setR 0 (.int .u8 1)).setR 1 (.int .u8 0)).setR 2 (.int .i64 d)).setR 3 (.int .i64 0)).setR 4 (.int .i64 0)).setR 5 (.int .i64 n)).setR 6 (.slice none 0 0))
 rw[HX.o] at HFin
 clear HR2 HX
 go_wp2
 obtain⟨y0,y1,y2,y3,y4,y5,y6⟩:=cC7 HFin.o.res
 refine bodyPost_ret (v:=.agg #[.int .u8 1,.int .u8 0,.int .i64 d,.int .i64 0,.int .i64 0,.int .i64 n,.slice none 0 0]) (by simp[results,Tryz.results122,go_sem,y0,y1,y2,y3,y4,y5,y6]) rfl ⟨rfl,HFin.o.fin⟩
theorem rins_3 (p:Nat) (rest:List UInt8) (o:Nat) (d:Nat) (a:Nat) (b:Nat) (w:World) (h:RdAt w p (leb 3++(leb o++(leb d++(leb a++(leb b++(rest)))))) 0) (ho:o < 256) (hd:d < 4096) (ha:a < 4096) (hb:b < 4096) (hl:(leb 3++(leb o++(leb d++(leb a++(leb b++(rest)))))).length≤10000000) :
  Calls Tryz.prog 122 #[.pointer (some ⟨p,0,none⟩)] w λe w'=>e=.returned (.agg #[.int .u8 3,.int .u8 (o:Nat),.int .i64 (d:Nat),.int .i64 (a:Nat),.int .i64 (b:Nat),.int .i64 0,.slice none 0 0])∧RdStep w w' p rest 0:=by
 have hp:=h.lt
 have HRd:=Hm h
 have HL:=Hm hl
 simp only[List.length_append] at hl
 have HLN:=Hm hl
 clear h hl
 go_enter Tryz.func122,Tryz.ntmps122
 go_wp2_with fail
 refine(below_leb p 3 _ 256 _ (HRd.o.below (bA (bA (bR _) _) _)) (by omega) (by omega) HL.o).mono ?_
 rintro e X1 ⟨rfl,hs⟩
 obtain⟨hz1,hR0⟩:=ri_begin [.int .u8 3,.int .u8 0,.int .i64 0,.int .i64 0,.int .i64 0,.int .i64 0,.slice none 0 0] hp hs
 have HR:=Hm hR0
 have HZ1:=Hm hz1
 clear hR0 hs HRd
 obtain⟨bi,hbi⟩:∃ bi,bi=X1.heap.size:=⟨_,rfl⟩
 have b0:=HR.o.b0
 go_wp2_with fail
 clear b0
 obtain⟨X,hX⟩:∃ X,X=X1.alloc (.cells #[.int .u8 3,.int .u8 0,.int .i64 0,.int .i64 0,.int .i64 0,.int .i64 0,.slice none 0 0] 91):=⟨_,rfl⟩
 rw[←hX] at HR⊢
 rw[←hbi] at HR⊢
 clear hX hbi HZ1 hz1
 refine(below_leb p o (leb d++(leb a++(leb b++(rest)))) 256 X HR.o.rd ho (by omega) (by have:=HLN.o;simp only[List.length_append] at this⊢;omega)).mono ?_
 rintro e X' ⟨rfl,hs⟩
 have HR':=Hm (HR.o.step hs)
 have b0:=HR'.o.b0
 have v0:X'.cell? ⟨bi,1,none⟩=some (.int .u8 0):=by rw[cell_at HR'.o.var];rfl
 have f0:=free_at HR'.o.var 1
 have HR2:=Hm (HR'.o.set 1 (.int .u8 o))
 simp only[List.set_cons_zero,List.set_cons_succ] at HR2
 clear hs HR HR'
 go_wp2_with fail
 obtain⟨X,hX⟩:∃ X,X=X'.setCell ⟨bi,1,none⟩ (.int .u8 o):=⟨_,rfl⟩
 rw[←hX] at HR2⊢
 clear hX b0 v0 f0
 have HR:=HR2
 clear HR2
 refine(num150 w.heap.size p d (leb a++(leb b++(rest))) X HR.o.b0 HR.o.rd hd (by have:=HLN.o;simp only[List.length_append] at this⊢;omega)).mono ?_
 rintro e X' ⟨rfl,hs⟩
 have HR':=Hm (HR.o.step hs)
 have b0:=HR'.o.b0
 have v0:X'.cell? ⟨bi,2,none⟩=some (.int .i64 0):=by rw[cell_at HR'.o.var];rfl
 have f0:=free_at HR'.o.var 2
 have HR2:=Hm (HR'.o.set 2 (.int .i64 d))
 simp only[List.set_cons_zero,List.set_cons_succ] at HR2
 clear hs HR HR'
 go_wp2_with fail
 obtain⟨X,hX⟩:∃ X,X=X'.setCell ⟨bi,2,none⟩ (.int .i64 d):=⟨_,rfl⟩
 rw[←hX] at HR2⊢
 clear hX b0 v0 f0
 have HR:=HR2
 clear HR2
 refine(num150 w.heap.size p a (leb b++(rest)) X HR.o.b0 HR.o.rd ha (by have:=HLN.o;simp only[List.length_append] at this⊢;omega)).mono ?_
 rintro e X' ⟨rfl,hs⟩
 have HR':=Hm (HR.o.step hs)
 have b0:=HR'.o.b0
 have v0:X'.cell? ⟨bi,3,none⟩=some (.int .i64 0):=by rw[cell_at HR'.o.var];rfl
 have f0:=free_at HR'.o.var 3
 have HR2:=Hm (HR'.o.set 3 (.int .i64 a))
 simp only[List.set_cons_zero,List.set_cons_succ] at HR2
 clear hs HR HR'
 go_wp2_with fail
 obtain⟨X,hX⟩:∃ X,X=X'.setCell ⟨bi,3,none⟩ (.int .i64 a):=⟨_,rfl⟩
 rw[←hX] at HR2⊢
 clear hX b0 v0 f0
 have HR:=HR2
 clear HR2
 refine(num150 w.heap.size p b (rest) X HR.o.b0 HR.o.rd hb (by have:=HLN.o;simp only[List.length_append] at this⊢;omega)).mono ?_
 rintro e X' ⟨rfl,hs⟩
 have HR':=Hm (HR.o.step hs)
 have b0:=HR'.o.b0
 have v0:X'.cell? ⟨bi,4,none⟩=some (.int .i64 0):=by rw[cell_at HR'.o.var];rfl
 have f0:=free_at HR'.o.var 4
 have HR2:=Hm (HR'.o.set 4 (.int .i64 b))
 simp only[List.set_cons_zero,List.set_cons_succ] at HR2
 clear hs HR HR'
 obtain⟨X,hX⟩:∃ X,X=X'.setCell ⟨bi,4,none⟩ (.int .i64 b):=⟨_,rfl⟩
 have HX:=Hm hX
 rw[←hX] at HR2
 clear hX
 have hh:=HR2.o.var
 rw[HX.o] at hh
 obtain⟨c0,c1,c2,c3,c4,c5,c6⟩:=cC7 hh
 clear hh
 have hh:=HR2.o.res
 rw[HX.o] at hh
 obtain⟨z0,z1,z2,z3,z4,z5,z6⟩:=cC7 hh
 clear hh
 have hh:=HR2.o.res
 rw[HX.o] at hh
 obtain⟨g0,g1,g2,g3,g4,g5,g6⟩:=fF7 hh
 clear hh
 have HFin:=Hm (((((((HR2.o.setR 0 (.int .u8 3)).setR 1 (.int .u8 o)).setR 2 (.int .i64 d)).setR 3 (.int .i64 a)).setR 4 (.int .i64 b)).setR 5 (.int .i64 0)).setR 6 (.slice none 0 0))
 rw[HX.o] at HFin
 clear HR2 HX
 go_wp2
 obtain⟨y0,y1,y2,y3,y4,y5,y6⟩:=cC7 HFin.o.res
 refine bodyPost_ret (v:=.agg #[.int .u8 3,.int .u8 o,.int .i64 d,.int .i64 a,.int .i64 b,.int .i64 0,.slice none 0 0]) (by simp[results,Tryz.results122,go_sem,y0,y1,y2,y3,y4,y5,y6]) rfl ⟨rfl,HFin.o.fin⟩
theorem rins_5 (p:Nat) (rest:List UInt8) (a:Nat) (b:Nat) (w:World) (h:RdAt w p (leb 5++(leb a++(leb b++(rest)))) 0) (ha:a < 4096) (hb:b < 4096) (hl:(leb 5++(leb a++(leb b++(rest)))).length≤10000000) :
  Calls Tryz.prog 122 #[.pointer (some ⟨p,0,none⟩)] w λe w'=>e=.returned (.agg #[.int .u8 5,.int .u8 0,.int .i64 0,.int .i64 (a:Nat),.int .i64 (b:Nat),.int .i64 0,.slice none 0 0])∧RdStep w w' p rest 0:=by
 have hp:=h.lt
 have HRd:=Hm h
 have HL:=Hm hl
 simp only[List.length_append] at hl
 have HLN:=Hm hl
 clear h hl
 go_enter Tryz.func122,Tryz.ntmps122
 go_wp2_with fail
 refine(below_leb p 5 _ 256 _ (HRd.o.below (bA (bA (bR _) _) _)) (by omega) (by omega) HL.o).mono ?_
 rintro e X1 ⟨rfl,hs⟩
 obtain⟨hz1,hR0⟩:=ri_begin [.int .u8 5,.int .u8 0,.int .i64 0,.int .i64 0,.int .i64 0,.int .i64 0,.slice none 0 0] hp hs
 have HR:=Hm hR0
 have HZ1:=Hm hz1
 clear hR0 hs HRd
 obtain⟨bi,hbi⟩:∃ bi,bi=X1.heap.size:=⟨_,rfl⟩
 have b0:=HR.o.b0
 go_wp2_with fail
 clear b0
 obtain⟨X,hX⟩:∃ X,X=X1.alloc (.cells #[.int .u8 5,.int .u8 0,.int .i64 0,.int .i64 0,.int .i64 0,.int .i64 0,.slice none 0 0] 91):=⟨_,rfl⟩
 rw[←hX] at HR⊢
 rw[←hbi] at HR⊢
 clear hX hbi HZ1 hz1
 refine(num150 w.heap.size p a (leb b++(rest)) X HR.o.b0 HR.o.rd ha (by have:=HLN.o;simp only[List.length_append] at this⊢;omega)).mono ?_
 rintro e X' ⟨rfl,hs⟩
 have HR':=Hm (HR.o.step hs)
 have b0:=HR'.o.b0
 have v0:X'.cell? ⟨bi,3,none⟩=some (.int .i64 0):=by rw[cell_at HR'.o.var];rfl
 have f0:=free_at HR'.o.var 3
 have HR2:=Hm (HR'.o.set 3 (.int .i64 a))
 simp only[List.set_cons_zero,List.set_cons_succ] at HR2
 clear hs HR HR'
 go_wp2_with fail
 obtain⟨X,hX⟩:∃ X,X=X'.setCell ⟨bi,3,none⟩ (.int .i64 a):=⟨_,rfl⟩
 rw[←hX] at HR2⊢
 clear hX b0 v0 f0
 have HR:=HR2
 clear HR2
 refine(num150 w.heap.size p b (rest) X HR.o.b0 HR.o.rd hb (by have:=HLN.o;simp only[List.length_append] at this⊢;omega)).mono ?_
 rintro e X' ⟨rfl,hs⟩
 have HR':=Hm (HR.o.step hs)
 have b0:=HR'.o.b0
 have v0:X'.cell? ⟨bi,4,none⟩=some (.int .i64 0):=by rw[cell_at HR'.o.var];rfl
 have f0:=free_at HR'.o.var 4
 have HR2:=Hm (HR'.o.set 4 (.int .i64 b))
 simp only[List.set_cons_zero,List.set_cons_succ] at HR2
 clear hs HR HR'
 obtain⟨X,hX⟩:∃ X,X=X'.setCell ⟨bi,4,none⟩ (.int .i64 b):=⟨_,rfl⟩
 have HX:=Hm hX
 rw[←hX] at HR2
 clear hX
 have hh:=HR2.o.var
 rw[HX.o] at hh
 obtain⟨c0,c1,c2,c3,c4,c5,c6⟩:=cC7 hh
 clear hh
 have hh:=HR2.o.res
 rw[HX.o] at hh
 obtain⟨z0,z1,z2,z3,z4,z5,z6⟩:=cC7 hh
 clear hh
 have hh:=HR2.o.res
 rw[HX.o] at hh
 obtain⟨g0,g1,g2,g3,g4,g5,g6⟩:=fF7 hh
 clear hh
 have HFin:=Hm (((((((HR2.o.setR 0 (.int .u8 5)).setR 1 (.int .u8 0)).setR 2 (.int .i64 0)).setR 3 (.int .i64 a)).setR 4 (.int .i64 b)).setR 5 (.int .i64 0)).setR 6 (.slice none 0 0))
 rw[HX.o] at HFin
 clear HR2 HX
 go_wp2
 obtain⟨y0,y1,y2,y3,y4,y5,y6⟩:=cC7 HFin.o.res
 refine bodyPost_ret (v:=.agg #[.int .u8 5,.int .u8 0,.int .i64 0,.int .i64 a,.int .i64 b,.int .i64 0,.slice none 0 0]) (by simp[results,Tryz.results122,go_sem,y0,y1,y2,y3,y4,y5,y6]) rfl ⟨rfl,HFin.o.fin⟩
theorem rins_s (k:Nat) (hk:k=2∨k=4∨k=7∨k=8) (p:Nat) (rest:List UInt8) (d:Nat) (a:Nat) (w:World) (h:RdAt w p (leb k++(leb d++(leb a++(rest)))) 0) (hd:d < 4096) (ha:a < 4096) (hl:(leb k++(leb d++(leb a++(rest)))).length≤10000000) :
  Calls Tryz.prog 122 #[.pointer (some ⟨p,0,none⟩)] w λe w'=>e=.returned (.agg #[.int .u8 k,.int .u8 0,.int .i64 (d:Nat),.int .i64 (a:Nat),.int .i64 0,.int .i64 0,.slice none 0 0])∧RdStep w w' p rest 0:=by
 have hp:=h.lt
 have HRd:=Hm h
 have HL:=Hm hl
 simp only[List.length_append] at hl
 have HLN:=Hm hl
 clear h hl
 have hf:(((k:Int) == 1)=false)∧((((k:Int) == 2)=true)∨(((k:Int) == 2)=false∧((k:Int) == 4)=true)∨(((k:Int) == 2)=false∧((k:Int) == 4)=false∧((k:Int) == 7)=true)∨(((k:Int) == 2)=false∧((k:Int) == 4)=false∧((k:Int) == 7)=false∧((k:Int) == 8)=true)):=by rcases hk with rfl|rfl|rfl|rfl<;>decide
 have hk9:k < 256:=by omega
 clear hk
 obtain⟨d1,hf⟩:=hf
 rcases hf with d2|⟨d2,d4⟩|⟨d2,d4,d7⟩|⟨d2,d4,d7,d8⟩
 all_goals (
  go_enter Tryz.func122,Tryz.ntmps122
  go_wp2_with fail
  refine(below_leb p k _ 256 _ (HRd.o.below (bA (bA (bR _) _) _)) (by omega) (by omega) HL.o).mono ?_
  rintro e X1 ⟨rfl,hs⟩
  obtain⟨hz1,hR0⟩:=ri_begin [.int .u8 k,.int .u8 0,.int .i64 0,.int .i64 0,.int .i64 0,.int .i64 0,.slice none 0 0] hp hs
  have HR:=Hm hR0
  have HZ1:=Hm hz1
  clear hR0 hs HRd
  obtain⟨bi,hbi⟩:∃ bi,bi=X1.heap.size:=⟨_,rfl⟩
  have b0:=HR.o.b0
  go_wp2_with fail
  clear b0
  obtain⟨X,hX⟩:∃ X,X=X1.alloc (.cells #[.int .u8 k,.int .u8 0,.int .i64 0,.int .i64 0,.int .i64 0,.int .i64 0,.slice none 0 0] 91):=⟨_,rfl⟩
  rw[←hX] at HR⊢
  rw[←hbi] at HR⊢
  clear hX hbi HZ1 hz1
  refine(num150 w.heap.size p d (leb a++(rest)) X HR.o.b0 HR.o.rd hd (by have:=HLN.o;simp only[List.length_append] at this⊢;omega)).mono ?_
  rintro e X' ⟨rfl,hs⟩
  have HR':=Hm (HR.o.step hs)
  have b0:=HR'.o.b0
  have v0:X'.cell? ⟨bi,2,none⟩=some (.int .i64 0):=by rw[cell_at HR'.o.var];rfl
  have f0:=free_at HR'.o.var 2
  have HR2:=Hm (HR'.o.set 2 (.int .i64 d))
  simp only[List.set_cons_zero,List.set_cons_succ] at HR2
  clear hs HR HR'
  go_wp2_with fail
  obtain⟨X,hX⟩:∃ X,X=X'.setCell ⟨bi,2,none⟩ (.int .i64 d):=⟨_,rfl⟩
  rw[←hX] at HR2⊢
  clear hX b0 v0 f0
  have HR:=HR2
  clear HR2
  refine(num150 w.heap.size p a (rest) X HR.o.b0 HR.o.rd ha (by have:=HLN.o;simp only[List.length_append] at this⊢;omega)).mono ?_
  rintro e X' ⟨rfl,hs⟩
  have HR':=Hm (HR.o.step hs)
  have b0:=HR'.o.b0
  have v0:X'.cell? ⟨bi,3,none⟩=some (.int .i64 0):=by rw[cell_at HR'.o.var];rfl
  have f0:=free_at HR'.o.var 3
  have HR2:=Hm (HR'.o.set 3 (.int .i64 a))
  simp only[List.set_cons_zero,List.set_cons_succ] at HR2
  clear hs HR HR'
  obtain⟨X,hX⟩:∃ X,X=X'.setCell ⟨bi,3,none⟩ (.int .i64 a):=⟨_,rfl⟩
  have HX:=Hm hX
  rw[←hX] at HR2
  clear hX
  have hh:=HR2.o.var
  rw[HX.o] at hh
  obtain⟨c0,c1,c2,c3,c4,c5,c6⟩:=cC7 hh
  clear hh
  have hh:=HR2.o.res
  rw[HX.o] at hh
  obtain⟨z0,z1,z2,z3,z4,z5,z6⟩:=cC7 hh
  clear hh
  have hh:=HR2.o.res
  rw[HX.o] at hh
  obtain⟨g0,g1,g2,g3,g4,g5,g6⟩:=fF7 hh
  clear hh
  have HFin:=Hm (((((((HR2.o.setR 0 (.int .u8 k)).setR 1 (.int .u8 0)).setR 2 (.int .i64 d)).setR 3 (.int .i64 a)).setR 4 (.int .i64 0)).setR 5 (.int .i64 0)).setR 6 (.slice none 0 0))
  rw[HX.o] at HFin
  clear HR2 HX
  go_wp2
  obtain⟨y0,y1,y2,y3,y4,y5,y6⟩:=cC7 HFin.o.res
  refine bodyPost_ret (v:=.agg #[.int .u8 k,.int .u8 0,.int .i64 d,.int .i64 a,.int .i64 0,.int .i64 0,.slice none 0 0]) (by simp[results,Tryz.results122,go_sem,y0,y1,y2,y3,y4,y5,y6]) rfl ⟨rfl,HFin.o.fin⟩)
theorem rins_2 (p:Nat) (rest:List UInt8) (d:Nat) (a:Nat) (w:World) (h:RdAt w p (leb 2++(leb d++(leb a++(rest)))) 0) (hd:d < 4096) (ha:a < 4096) (hl:(leb 2++(leb d++(leb a++(rest)))).length≤10000000) :
  Calls Tryz.prog 122 #[.pointer (some ⟨p,0,none⟩)] w λe w'=>e=.returned (.agg #[.int .u8 2,.int .u8 0,.int .i64 (d:Nat),.int .i64 (a:Nat),.int .i64 0,.int .i64 0,.slice none 0 0])∧RdStep w w' p rest 0:=rins_s 2 (.inl rfl) p rest d a w h hd ha hl
theorem rins_4 (p:Nat) (rest:List UInt8) (d:Nat) (a:Nat) (w:World) (h:RdAt w p (leb 4++(leb d++(leb a++(rest)))) 0) (hd:d < 4096) (ha:a < 4096) (hl:(leb 4++(leb d++(leb a++(rest)))).length≤10000000) :
  Calls Tryz.prog 122 #[.pointer (some ⟨p,0,none⟩)] w λe w'=>e=.returned (.agg #[.int .u8 4,.int .u8 0,.int .i64 (d:Nat),.int .i64 (a:Nat),.int .i64 0,.int .i64 0,.slice none 0 0])∧RdStep w w' p rest 0:=rins_s 4 (.inr (.inl rfl)) p rest d a w h hd ha hl
theorem rins_7 (p:Nat) (rest:List UInt8) (d:Nat) (a:Nat) (w:World) (h:RdAt w p (leb 7++(leb d++(leb a++(rest)))) 0) (hd:d < 4096) (ha:a < 4096) (hl:(leb 7++(leb d++(leb a++(rest)))).length≤10000000) :
  Calls Tryz.prog 122 #[.pointer (some ⟨p,0,none⟩)] w λe w'=>e=.returned (.agg #[.int .u8 7,.int .u8 0,.int .i64 (d:Nat),.int .i64 (a:Nat),.int .i64 0,.int .i64 0,.slice none 0 0])∧RdStep w w' p rest 0:=rins_s 7 (.inr (.inr (.inl rfl))) p rest d a w h hd ha hl
theorem rins_8 (p:Nat) (rest:List UInt8) (d:Nat) (a:Nat) (w:World) (h:RdAt w p (leb 8++(leb d++(leb a++(rest)))) 0) (hd:d < 4096) (ha:a < 4096) (hl:(leb 8++(leb d++(leb a++(rest)))).length≤10000000) :
  Calls Tryz.prog 122 #[.pointer (some ⟨p,0,none⟩)] w λe w'=>e=.returned (.agg #[.int .u8 8,.int .u8 0,.int .i64 (d:Nat),.int .i64 (a:Nat),.int .i64 0,.int .i64 0,.slice none 0 0])∧RdStep w w' p rest 0:=rins_s 8 (.inr (.inr (.inr rfl))) p rest d a w h hd ha hl
theorem own_grown {w w':World} {base:Nat} {e:TypeId} {size n:Nat} {v:Value} {xs:List Value} {row:Option Nat} (h:w.ownsRow base e size v n xs) (hg:w.grownBy w' row) (hr:∀ k,row=some k→k < base):w'.ownsRow base e size v n xs:=by
 obtain⟨h1,h2⟩:=h
 refine⟨h1,?_⟩
 rcases h2 with h2|⟨g,cap,cur,hv,hb,hh,h3⟩
 ·exact .inl h2
 ·exact .inr ⟨g,cap,cur,hv,hb,by rw[hg.block g (Array.getElem?_eq_some_iff.1 hh).1 (λe=>by have:=hr g e.symm;omega)];exact hh,h3⟩
theorem rins_6 (p:Nat) (rest:List UInt8) (d:Nat) (args:List Int) (n:Int) (w:World) (h:RdAt w p (leb 6++(leb d++(leb (zig n)++(leb args.length++(flatL args++rest))))) 0) (hd:d < 4096) (hn:-9223372036854775808≤n∧n≤9223372036854775807) (hargs:∀ x∈args,0≤x∧x < 4096) (hlen:args.length≤3) (hl:(leb 6++(leb d++(leb (zig n)++(leb args.length++(flatL args++rest))))).length≤10000000) :
  Calls Tryz.prog 122 #[.pointer (some ⟨p,0,none⟩)] w λe w'=>RdStep w w' p rest 0∧∃ v,e=.returned (.agg #[.int .u8 6,.int .u8 0,.int .i64 d,.int .i64 0,.int .i64 0,.int .i64 n,v])∧OwnI w' w.heap.size v args:=by
 have hp:=h.lt
 have HRd:=Hm h
 have HL:=Hm hl
 simp only[List.length_append] at hl
 have HLN:=Hm hl
 have HA:=Hm hargs
 clear h hl hargs
 go_enter Tryz.func122,Tryz.ntmps122
 go_wp2_with fail
 refine(below_leb p 6 _ 256 _ (HRd.o.below (bA (bA (bR _) _) _)) (by omega) (by omega) HL.o).mono ?_
 rintro e X1 ⟨rfl,hs⟩
 obtain⟨hz1,hR0⟩:=ri_begin [.int .u8 6,.int .u8 0,.int .i64 0,.int .i64 0,.int .i64 0,.int .i64 0,.slice none 0 0] hp hs
 have HR:=Hm hR0
 have HZ1:=Hm hz1
 clear hR0 hs HRd
 obtain⟨bi,hbi⟩:∃ bi,bi=X1.heap.size:=⟨_,rfl⟩
 have b0:=HR.o.b0
 go_wp2_with fail
 clear b0
 obtain⟨X,hX⟩:∃ X,X=X1.alloc (.cells #[.int .u8 6,.int .u8 0,.int .i64 0,.int .i64 0,.int .i64 0,.int .i64 0,.slice none 0 0] 91):=⟨_,rfl⟩
 rw[←hX] at HR⊢
 rw[←hbi] at HR⊢
 clear hX hbi HZ1 hz1
 refine(num150 w.heap.size p d (leb (zig n)++(leb args.length++(flatL args++rest))) X HR.o.b0 HR.o.rd hd (by have:=HLN.o;simp only[List.length_append] at this⊢;omega)).mono ?_
 rintro e X' ⟨rfl,hs⟩
 have HR':=Hm (HR.o.step hs)
 have b0:=HR'.o.b0
 have v0:X'.cell? ⟨bi,2,none⟩=some (.int .i64 0):=by rw[cell_at HR'.o.var];rfl
 have f0:=free_at HR'.o.var 2
 have HR2:=Hm (HR'.o.set 2 (.int .i64 d))
 simp only[List.set_cons_zero,List.set_cons_succ] at HR2
 clear hs HR HR'
 go_wp2_with fail
 obtain⟨X,hX⟩:∃ X,X=X'.setCell ⟨bi,2,none⟩ (.int .i64 d):=⟨_,rfl⟩
 rw[←hX] at HR2⊢
 clear hX b0 v0 f0
 have HR:=HR2
 clear HR2
 refine(int_leb p n (leb args.length++(flatL args++rest)) X HR.o.rd hn (by have:=HLN.o;simp only[List.length_append] at this⊢;omega)).mono ?_
 rintro e X' ⟨rfl,hs⟩
 have HR':=Hm (HR.o.step hs)
 have b0:=HR'.o.b0
 have v0:X'.cell? ⟨bi,5,none⟩=some (.int .i64 0):=by rw[cell_at HR'.o.var];rfl
 have f0:=free_at HR'.o.var 5
 have HR2:=Hm (HR'.o.set 5 (.int .i64 n))
 simp only[List.set_cons_zero,List.set_cons_succ] at HR2
 clear hs HR HR'
 go_wp2_with fail
 obtain⟨X,hX⟩:∃ X,X=X'.setCell ⟨bi,5,none⟩ (.int .i64 n):=⟨_,rfl⟩
 rw[←hX] at HR2⊢
 clear hX b0 v0 f0
 have HR:=HR2
 clear HR2
 have HLa:Hd ((flatL args++rest).length≤10000000):=⟨by have:=HLN.o;simp only[List.length_append] at this⊢;omega⟩
 refine(below_leb p args.length (flatL args++rest) 4 X HR.o.rd (by omega) (by omega) (by have:=HLN.o;simp only[List.length_append] at this⊢;omega)).mono ?_
 rintro e X0 ⟨rfl,hs⟩
 have HR0:=Hm (HR.o.step hs)
 clear hs HR
 go_wp2_with fail
 go_loopw [66] (λi wr=>∃ j:Nat,j≤args.length∧i=.int .i64 j∧∃ v,RI w wr p w.heap.size bi 91 (flatL (args.drop j)++rest) [.int .u8 0,.int .u8 0,.int .i64 0,.int .i64 0,.int .i64 0,.int .i64 0,.slice none 0 0] [.int .u8 6,.int .u8 0,.int .i64 d,.int .i64 0,.int .i64 0,.int .i64 n,v]∧OwnI wr (bi+1) v (args.take j)) (λi _=>args.length-(intOf i).toNat)
 case atStart=>exact⟨0,Nat.zero_le _,rfl,.slice none 0 0,HR0.o,(by simpa [OwnI] using own_none X0 (bi+1) 3 1 0 rfl)⟩
 case round =>
  obtain⟨j,hj,rfl,v,hr,ho⟩:=hrel
  have HR:=Hm hr
  have HO:=Hm ho
  obtain⟨A6,k6,rfl,-,hl6,-,-,-⟩:=own_row ho
  have hlj:(args.take j).length=j:=by simp;omega
  rw[hlj] at HR HO
  clear hr ho hl6 hlj
  by_cases hlt:j < args.length
  ·have hd:args.drop j=args[j] :: args.drop (j+1):=List.drop_eq_getElem_cons hlt
   have ht:args.take (j+1)=args.take j++[args[j]]:=take_snoc' args j hlt
   have hx:=HA.o _ (List.getElem_mem hlt)
   have hlx:(flatL (args.drop j)++rest).length≤10000000:=by
    have h1:(flatL (args.drop j)).length≤(flatL args).length:=by
     have:flatL args=flatL (args.take j)++flatL (args.drop j):=by unfold flatL;rw[←List.flatMap_append,List.take_append_drop]
     rw[this];simp
    have h2:=HLa.o
    simp only[List.length_append] at h2⊢
    omega
   generalize args[j]=x at *
   obtain⟨m,rfl⟩:=Int.eq_ofNat_of_zero_le hx.1
   have hm:m < 4096:=by omega
   have hfd:flatL (args.drop j)++rest=leb m++(flatL (args.drop (j+1))++rest):=by rw[hd];simp[flatL,List.append_assoc]
   rw[hfd] at HR hlx
   have HLX:=Hm hlx
   clear hlx
   have HT:=Hm ht
   clear hx hd ht hfd
   have b0:=HR.o.b0
   have v0:wr.cell? ⟨bi,6,none⟩=some (.slice A6 j k6):=by rw[cell_at HR.o.var];rfl
   go_wp2_with fail
   refine rgn [.rd 0,.rd 1,.rd 2,.hv 3 [0,1],.hv 4 [0,1],.hv 5 [],.rd 6,.hv 7 []] (n:=77) rfl ?_
   iterate 3 (refine line_rd rfl (λK hK=>?_);go_simp;refine hK _ ?_;clear hK K)
   refine line_hv rfl ?_
   go_wp2_with fail
   refine(num150 w.heap.size p m (flatL (args.drop (j+1))++rest) (World.drew wr) b0 (HR.o.rd.below (bD (bR _))) hm HLX.o).mono ?_
   rintro e X1 ⟨rfl,hs⟩
   have HR1:=Hm ((HR.o.bel (bD (bR _))).step hs)
   have HO1:Hd (OwnI X1 (bi+1) (.slice A6 j k6) (args.take j)):=⟨own_grown HO.o (grownBy_trans (grownBy_below (row:=some p) (bD (bR wr))) hs.grown) (λk hk=>by cases hk;have:=HR.o.pq;have:=HR.o.qb;omega)⟩
   have b1:=HR1.o.b0
   have v1:X1.cell? ⟨bi,6,none⟩=some (.slice A6 j k6):=by rw[cell_at HR1.o.var];rfl
   have hbx:bi < X1.heap.size:=HR1.o.bx
   clear hs HR HO b0 v0
   go_wp2_with fail
   refine⟨?_,?_⟩
   ·simp only[Again,slotOf]
    go_simp
   refine line_hv rfl ?_
   go_wp2_with fail
   refine⟨?_,?_⟩
   ·simp only[Again,slotOf]
    go_simp
   refine line_hv rfl ?_
   have htl:(args.take j).length≤3:=by simp;omega
   refine app iInt Tryz.underlying29 rfl (.tmp 69) (.tmp 72) rfl rfl (HO1.o.alloc (.cells #[.int .i64 m] 3)) (show bi+1≤(X1.alloc (.cells #[.int .i64 m] 3)).heap.size by simp;omega) (A:=some ⟨X1.heap.size,0,none⟩) (m:=1) (c:=1) (news:=[.int .i64 m]) rfl (row_new _ _ _ _) (by simp) (by simp[Value.oneCell']) (show ((args.take j).length+1)*8≤140737488355328 by omega) ?_
   intro v5 X5 ho5 hg5
   have HO5:Hd (OwnI X5 (bi+1) v5 (args.take (j+1))):=⟨by rw[HT.o];simpa [OwnI] using ho5⟩
   have HR5:=Hm ((HR1.o.bel (bA (bR _) (.cells #[.int .i64 m] 3))).own hg5 (λk hk=>(HO1.o.lt k hk).1))
   obtain⟨A5,c5,rfl,-,-,-,-,-⟩:=own_row HO5.o
   have hlj:(args.take (j+1)).length=j+1:=by simp;omega
   rw[hlj] at HO5⊢
   clear hlj
   have v5:X5.cell? ⟨bi,6,none⟩=some (.slice A6 j k6):=by rw[cell_at HR5.o.var];rfl
   have f5:=free_at HR5.o.var 6
   clear ho5 hg5 HR1 HO1 b1 v1 hbx
   go_wp2_with fail
   refine⟨?_,?_⟩
   ·exact trivial
   refine line_rd rfl (λK hK=>?_);go_simp;refine hK _ ?_;clear hK K
   refine line_hv rfl ?_
   go_wp2_with fail
   refine⟨?_,?_⟩
   ·exact trivial
   unfold Line
   have HR6:=Hm (HR5.o.set 6 (.slice A5 (j+1) c5))
   simp only[List.set_cons_zero,List.set_cons_succ] at HR6
   have HO6:Hd (OwnI (X5.setCell ⟨bi,6,none⟩ (.slice A5 (j+1) c5)) (bi+1) (.slice A5 (j+1) c5) (args.take (j+1))):=⟨own_step HO5.o λg hg=>heap_setCell_other _ ⟨bi,6,none⟩ g _ (by simp only;omega)⟩
   clear HR5 HO5 v5 f5
   go_wp2_with fail
   go_roundw
   case rel=>exact⟨j+1,by omega,by go_num,_,HR6.o,HO6.o⟩
   case measure=>simp[intOf];omega
  ·obtain rfl:j=args.length:=by omega
   have hd:args.drop args.length=[]:=List.drop_length
   have ht:args.take args.length=args:=List.take_length
   rw[ht] at HO
   rw[hd] at HR
   clear hd ht
   obtain⟨c0,c1,c2,c3,c4,c5,c6⟩:=cC7 HR.o.var
   obtain⟨z0,z1,z2,z3,z4,z5,z6⟩:=cC7 HR.o.res
   have g0:wr.frozen? ⟨w.heap.size+1,0,none⟩=false:=free_at HR.o.res 0
   have g1:wr.frozen? ⟨w.heap.size+1,1,none⟩=false:=free_at HR.o.res 1
   have g2:wr.frozen? ⟨w.heap.size+1,2,none⟩=false:=free_at HR.o.res 2
   have g3:wr.frozen? ⟨w.heap.size+1,3,none⟩=false:=free_at HR.o.res 3
   have g4:wr.frozen? ⟨w.heap.size+1,4,none⟩=false:=free_at HR.o.res 4
   have g5:wr.frozen? ⟨w.heap.size+1,5,none⟩=false:=free_at HR.o.res 5
   have g6:wr.frozen? ⟨w.heap.size+1,6,none⟩=false:=free_at HR.o.res 6
   have HFin:=Hm (((((((HR.o.setR 0 (.int .u8 6)).setR 1 (.int .u8 0)).setR 2 (.int .i64 d)).setR 3 (.int .i64 0)).setR 4 (.int .i64 0)).setR 5 (.int .i64 n)).setR 6 (.slice A6 args.length k6))
   have HOF:Hd (OwnI (((((((wr.setCell ⟨w.heap.size+1,0,none⟩ (.int .u8 6)).setCell ⟨w.heap.size+1,1,none⟩ (.int .u8 0)).setCell ⟨w.heap.size+1,2,none⟩ (.int .i64 d)).setCell ⟨w.heap.size+1,3,none⟩ (.int .i64 0)).setCell ⟨w.heap.size+1,4,none⟩ (.int .i64 0)).setCell ⟨w.heap.size+1,5,none⟩ (.int .i64 n)).setCell ⟨w.heap.size+1,6,none⟩ (.slice A6 args.length k6)) w.heap.size (.slice A6 args.length k6) args):=⟨by
    have hq:=HR.o.qb
    refine own_base (base:=bi+1) ?_ (by omega)
    have h0:=HO.o
    iterate 7 refine own_step (w:=_) ?_ (λg hg=>heap_setCell_other _ ⟨w.heap.size+1,_,none⟩ g _ (by simp only;omega))
    exact h0⟩
   clear HR HO
   go_wp2
   obtain⟨y0,y1,y2,y3,y4,y5,y6⟩:=cC7 HFin.o.res
   refine bodyPost_ret (v:=.agg #[.int .u8 6,.int .u8 0,.int .i64 d,.int .i64 0,.int .i64 0,.int .i64 n,.slice A6 args.length k6]) (by simp[results,Tryz.results122,go_sem,y0,y1,y2,y3,y4,y5,y6]) rfl ⟨HFin.o.fin,_,rfl,HOF.o⟩
structure InsPlain (i:Ins):Prop where
 op3:i.op < 256
 op0:i.kind≠3→i.op=0
 d0:i.kind=5→i.d=0
 a0:i.kind=1∨i.kind=6→i.a=0
 b0:i.kind≠3→i.kind≠5→i.b=0
 n0:i.kind≠1→i.kind≠6→i.n=0
 args0:i.kind≠6→i.args=[]
theorem mins_plain {s r:Int} {i:Ins} (h:MInsOk s r i):InsPlain i:=by
 rcases h with ⟨h,ho,hb,hn,ha⟩|h
 ·have hk:i.kind=7∨i.kind=8:=by rcases h with h|h<;>simp[h.1]
  exact⟨by omega,λ_=>ho,λh=>by omega,λh=>by omega,λ_ _=>hb,λ_ _=>hn,λ_=>ha⟩
 ·exact⟨by
   by_cases h3:i.kind=3
   ·have:=h.op3 h3;omega
   ·have:=h.op0 h3;omega,h.op0,h.d0,h.a0,h.b0,h.n0,h.args0⟩
def RInsPost (w:World) (p:Nat) (rest:List UInt8) (i:Ins) (e:Ending) (w':World):Prop:=RdStep w w' p rest 0∧∃ v,e=.returned (insV i v)∧OwnI w' w.heap.size v i.args
theorem ins_any (p:Nat) (rest:List UInt8) (i:Ins) (hi:InsFine i) (hpl:InsPlain i) (w:World) (h:RdAt w p (encIns i++rest) 0) (hl:(encIns i++rest).length≤10000000) :
  Calls Tryz.prog 122 #[.pointer (some ⟨p,0,none⟩)] w (RInsPost w p rest i):=by
 obtain⟨k,op,d,a,b,n,args⟩:=i
 obtain⟨⟨ho,hd,ha,hb,hn,hargs,hlen⟩,k1,k8⟩:=hi
 obtain⟨op3,op0,d0,a0,b0,n0,args0⟩:=hpl
 simp only at *
 have hnil:∀ w':World,OwnI w' w.heap.size (.slice none 0 0) []:=λw'=>by simpa [OwnI] using own_none w' w.heap.size 3 1 0 rfl
 have:k=1∨k=2∨k=3∨k=4∨k=5∨k=6∨k=7∨k=8:=by omega
 obtain⟨d,rfl⟩:=Int.eq_ofNat_of_zero_le hd.1
 obtain⟨a,rfl⟩:=Int.eq_ofNat_of_zero_le ha.1
 obtain⟨b,rfl⟩:=Int.eq_ofNat_of_zero_le hb.1
 obtain⟨op,rfl⟩:=Int.eq_ofNat_of_zero_le ho.1
 rcases this with rfl|rfl|rfl|rfl|rfl|rfl|rfl|rfl
 ·have e1:=op0 (by omega);have e2:=a0 (by omega);have e3:=b0 (by omega) (by omega);obtain rfl:=args0 (by omega)
  simp only[encIns,flatL,List.flatMap_cons,List.flatMap_nil,if_true,Int.toNat_natCast,List.append_assoc,List.append_nil,List.nil_append] at h hl
  refine(rins_1 p rest d n w h (by omega) hn hl).mono ?_
  rintro e w' ⟨rfl,hs⟩
  exact⟨hs,.slice none 0 0,by simp[insV,e1,e2,e3],hnil _⟩
 ·have e1:=op0 (by omega);have e2:=n0 (by omega) (by omega);have e3:=b0 (by omega) (by omega);obtain rfl:=args0 (by omega)
  simp[encIns,flatL] at h hl
  refine(rins_2 p rest d a w h (by omega) (by omega) (by simp;omega)).mono ?_
  rintro e w' ⟨rfl,hs⟩
  exact⟨hs,.slice none 0 0,by simp[insV,e1,e2,e3],hnil _⟩
 ·have e2:=n0 (by omega) (by omega);obtain rfl:=args0 (by omega)
  simp[encIns,flatL] at h hl
  refine(rins_3 p rest op d a b w h (by omega) (by omega) (by omega) (by omega) (by simp;omega)).mono ?_
  rintro e w' ⟨rfl,hs⟩
  exact⟨hs,.slice none 0 0,by simp[insV,e2],hnil _⟩
 ·have e1:=op0 (by omega);have e2:=n0 (by omega) (by omega);have e3:=b0 (by omega) (by omega);obtain rfl:=args0 (by omega)
  simp[encIns,flatL] at h hl
  refine(rins_4 p rest d a w h (by omega) (by omega) (by simp;omega)).mono ?_
  rintro e w' ⟨rfl,hs⟩
  exact⟨hs,.slice none 0 0,by simp[insV,e1,e2,e3],hnil _⟩
 ·have e1:=op0 (by omega);have e2:=n0 (by omega) (by omega);have e3:=d0 (by omega);obtain rfl:=args0 (by omega)
  simp[encIns,flatL] at h hl
  refine(rins_5 p rest a b w h (by omega) (by omega) (by simp;omega)).mono ?_
  rintro e w' ⟨rfl,hs⟩
  exact⟨hs,.slice none 0 0,by simp[insV,e1,e2,e3],hnil _⟩
 ·have e1:=op0 (by omega);have e2:=a0 (by omega);have e3:=b0 (by omega) (by omega)
  simp[encIns,flatL] at h hl
  refine(rins_6 p rest d args n w (by simpa [flatL] using h) (by omega) hn hargs hlen (by simp[flatL];omega)).mono ?_
  rintro e w' ⟨hs,v,rfl,ho⟩
  exact⟨hs,v,by simp[insV,e1,e2,e3],ho⟩
 ·have e1:=op0 (by omega);have e2:=n0 (by omega) (by omega);have e3:=b0 (by omega) (by omega);obtain rfl:=args0 (by omega)
  simp[encIns,flatL] at h hl
  refine(rins_7 p rest d a w h (by omega) (by omega) (by simp;omega)).mono ?_
  rintro e w' ⟨rfl,hs⟩
  exact⟨hs,.slice none 0 0,by simp[insV,e1,e2,e3],hnil _⟩
 ·have e1:=op0 (by omega);have e2:=n0 (by omega) (by omega);have e3:=b0 (by omega) (by omega);obtain rfl:=args0 (by omega)
  simp[encIns,flatL] at h hl
  refine(rins_8 p rest d a w h (by omega) (by omega) (by simp;omega)).mono ?_
  rintro e w' ⟨rfl,hs⟩
  exact⟨hs,.slice none 0 0,by simp[insV,e1,e2,e3],hnil _⟩
theorem end_any (p:Nat) (rest:List UInt8) (e:End) (he:EndFine e) (v n:Int) (hok:EndOk v n e) (w:World) (h:RdAt w p (encEnd e++rest) 0) (hl:(encEnd e++rest).length≤10000000) :
  Calls Tryz.prog 123 #[.pointer (some ⟨p,0,none⟩)] w λr w'=>r=.returned (endV e)∧RdStep w w' p rest 0:=by
 obtain⟨k,a,t,s⟩:=e
 obtain⟨k1,k3,ha,ht,hs⟩:=he
 unfold EndOk at hok
 simp only at *
 obtain⟨a,rfl⟩:=Int.eq_ofNat_of_zero_le ha.1
 obtain⟨t,rfl⟩:=Int.eq_ofNat_of_zero_le ht.1
 obtain⟨s,rfl⟩:=Int.eq_ofNat_of_zero_le hs.1
 rcases hok with ⟨rfl,e1,-,-,e2⟩|⟨rfl,-⟩|⟨rfl,-,-,e1,e2⟩
 ·simp[encEnd,flatL] at h hl
  refine(rend_1 p rest t w h (by omega) (by simp;omega)).mono ?_
  rintro e w' ⟨rfl,hs⟩
  exact⟨by simp[endV,e1,e2],hs⟩
 ·simp[encEnd,flatL] at h hl
  refine(rend_2 p rest a t s w h (by omega) (by omega) (by omega) (by simp;omega)).mono ?_
  rintro e w' ⟨rfl,hs⟩
  exact⟨by simp[endV],hs⟩
 ·simp[encEnd,flatL] at h hl
  refine(rend_3 p rest a w h (by omega) (by simp;omega)).mono ?_
  rintro e w' ⟨rfl,hs⟩
  exact⟨by simp[endV,e1,e2],hs⟩
section
variable {w:World}
theorem append_where {P:Program} {base:Nat} {t ty e:TypeId} {i:TypeInfo} {z:Value} (ht:P.underlying t=some (.slice e)) (hi:P.info? e=some i) (hz:i.zero=some z)
  {v:Value} {n:Nat} {xs:List Value} (hown:w.ownsRow base e i.size v n xs)
  {a:Addr} {m c:Nat} {news:List Value} (hl:news.length=m*i.size) (hnews:∀ j u,news[j]?=some u→w.cell? (a.add j)=some u) (h1:∀ u∈news,u.oneCell'=true)
  (h63:n+m≤maxLen) (hb:(n+m)*i.bytes≤140737488355328) {v':Value} {w':World} (hr:(Builtin.append_ #[t,t] ty #[v,.slice (some a) m c]).run P w=.ok v' w') :
  v'.ownBlock=v.ownBlock∨v'.ownBlock=some w.heap.size:=by
 have h63':((n+m:Nat):Int)≤9223372036854775807:=by unfold maxLen at h63;omega
 rcases hown.2 with ⟨rfl,rfl⟩|⟨g,cap,cur,rfl,hbg,hg,hnc,hcm,hcs,htk⟩
 ·rcases Nat.eq_zero_or_pos m with rfl|hm
  ·obtain rfl:news=[]:=List.eq_nil_of_length_eq_zero (by simpa using hl)
   left
   simp[Builtin.append_,run_underlying ht,sizeOf,typeInfo,hi,Builtin.lenOf,Builtin.firstCells,loadCells,loadCellsFrom] at hr
   rw[←hr.1]
  ·right
   rw[run_append_nil w t ty e i z ht hi hz a m c news hl hnews hm (by omega) (by simp only[Nat.zero_add] at hb;omega)] at hr
   cases hr
   rfl
 ·by_cases hroom:n+m≤cap
  ·left
   rw[run_append_room w t ty e i ht hi g n cap cur hg a m c news hl hnews h1 hroom (by rw[hl,hcs,←Nat.add_mul];exact Nat.mul_le_mul_right _ hroom)] at hr
   cases hr
   rfl
  ·right
   rw[run_append_grow w t ty e i z ht hi hz ⟨g,0,none⟩ n cap xs hown.1 (hown.cells (g:=g) rfl) a m c news hl hnews (by omega) h63' (growslice_fits (by omega) hb)] at hr
   cases hr
   rfl
variable {ops:Array Oper} {rest:List Oper} {o:Oper} {a:Act} {Q:Exit→Act→World→Prop}
theorem appW {e k by_:Nat} {z:Value} (hI:EI e k by_ z) {t:TypeId} (ht:Tryz.prog.underlying t=some (.slice e)) (hgd:o.guard=none) (s x:Operand) (ho:o.op=.call { callee:=.builtin .append,args:=#[s,x],argTypes:=#[t,t] })
  {base:Nat} {v:Value} {n:Nat} {xs:List Value} (hs:a.eval s=v) (hown:w.ownsRow base e k v n xs) (hbase:base≤w.heap.size)
  {q m c:Nat} {news:List Value} (hx:a.eval x=.slice (some ⟨q,0,none⟩) m c) (hnews:Row w (some ⟨q,0,none⟩) news) (hl:news.length=m*k) (h1:∀ u∈news,u.oneCell'=true) (hb:(n+m)*by_≤140737488355328)
  (h:∀ v' w',w'.ownsRow base e k v' (n+m) (xs++news)→w.grownBy w' v.ownBlock→(v'.ownBlock=v.ownBlock∨v'.ownBlock=some w.heap.size)→wpList Tryz.prog ops Q rest (a.put o.dst v') w'):wpList Tryz.prog ops Q (o :: rest) a w:=by
 obtain⟨i,hi,hz,rfl,rfl,hzs,hk0,hb0⟩:=hI
 have h63:n+m≤maxLen:=by
  have:(n+m)*1≤(n+m)*i.bytes:=Nat.mul_le_mul_left _ hb0
  unfold maxLen;omega
 have hn:∀ j u,news[j]?=some u→w.cell? ((⟨q,0,none⟩:Addr).add j)=some u:=by
  intro j u hu
  obtain⟨hj,rfl⟩:=List.getElem?_eq_some_iff.1 hu
  obtain⟨b',off',e',hc⟩:=hnews j hj
  simp only[Option.some.injEq,Addr.mk.injEq,and_true] at e'
  obtain⟨rfl,rfl⟩:=e'
  rw[show (⟨q,0,none⟩:Addr).add j=⟨q,0+j,none⟩ from by unfold Addr.add;split<;>simp_all]
  exact hc
 obtain⟨v',w',hr,h2,h3,-⟩:=run_append_own (P:=Tryz.prog) w base t o.type e i z i.size i.bytes ht hi hz rfl rfl hzs hk0 v n xs hown ⟨q,0,none⟩ m c news hl hn h1 h63 hb hbase
 have hw:=append_where ht hi hz hown hl hn h1 h63 hb hr
 refine wpList_plain hgd λK hK=>?_
 unfold Oper.wp execOp
 simp only[ho,resolve,invoke,builtin,Sem.run_bind,Sem.run_pure,Result.andThen_ok,List.map_toArray,List.map_cons,List.map_nil,hs,hx,hr]
 exact hK _ _ (h v' w' h2 h3 hw)
end
structure KRow {α:Type} (k:Kd α) (w:World) (base:Nat) (e:TypeId) (ok:Nat→Prop) (xs:List α) (v:Value):Prop where
 row:∃ vs,w.ownsRow base e k.size v xs.length vs∧k.All w ok xs vs
 apart:∀ b,ok b→some b≠v.ownBlock
 lt:∀ b,ok b→b < w.heap.size
section
variable {α:Type} {k:Kd α} {w w':World} {base:Nat} {e:TypeId} {ok ok':Nat→Prop} {xs:List α} {x:α} {v v':Value}
theorem KRow.none (w:World) (base:Nat) (e:TypeId) (ok:Nat→Prop) (hok:∀ b,ok b→b < w.heap.size):KRow k w base e ok [] (.slice .none 0 0) :=
 ⟨⟨[],by simpa using own_none w base e k.size 0 rfl,rfl⟩,λb _ h=>by simp[Value.ownBlock] at h,hok⟩
theorem KRow.own (h:KRow k w base e ok xs v):∃ vs,w.ownsRow base e k.size v xs.length vs:=by obtain⟨vs,h,_⟩:=h.row;exact⟨vs,h⟩
theorem KRow.form (h:KRow k w base e ok xs v):∃ A c,v=.slice A xs.length c∧xs.length≤c∧c≤maxLen∧∀ a,A=some a→base≤a.block∧a.block < w.heap.size:=by
 obtain⟨vs,h,_⟩:=h.row
 have hlt:=h.lt
 rcases h.2 with ⟨rfl,h0⟩|⟨g,cap,cur,rfl,hg,hh,hnc,hcm,_⟩
 ·exact⟨.none,0,by simp[h0],by omega,Nat.zero_le _,λa ha=>by cases ha⟩
 ·exact⟨_,cap,rfl,hnc,hcm,λa ha=>by cases ha;exact hlt g rfl⟩
theorem KRow.lt_own (h:KRow k w base e ok xs v) (b:Nat) (hb:v.ownBlock=some b):base≤b∧b < w.heap.size:=by
 obtain⟨vs,h,_⟩:=h.row
 exact h.lt b hb
theorem KRow.stay {row:Option Nat} (h:KRow k w base e ok xs v) (hg:w.grownBy w' row) (h1:v.ownBlock≠row∨v.ownBlock=.none) (h2:∀ b,ok b→some b≠row):KRow k w' base e ok xs v:=by
 obtain⟨⟨vs,h3,h4⟩,h5,h6⟩:=h
 refine⟨⟨vs,?_,h4.stay (Stays.grown hg h2)⟩,h5,λb hb=>Nat.lt_of_lt_of_le (h6 b hb) hg.size⟩
 obtain⟨h7,h8⟩:=h3
 refine⟨h7,?_⟩
 rcases h8 with h8|⟨g,cap,cur,hv,hb,hh,h9⟩
 ·exact .inl h8
 ·refine .inr ⟨g,cap,cur,hv,hb,?_,h9⟩
  rw[hg.block g (Array.getElem?_eq_some_iff.1 hh).1 (λe=>?_)]
  ·exact hh
  ·subst hv
   rcases h1 with h1|h1
   ·exact h1 e
   ·simp[Value.ownBlock] at h1
theorem KRow.bel (h:KRow k w base e ok xs v) (hb:Bel w w'):KRow k w' base e ok xs v:=by
 refine h.stay (row:=.none) (grownBy_below hb) ?_ (λb _ h=>by cases h)
 cases hv:v.ownBlock with
 |none=>exact .inr rfl
 |some g=>exact .inl (by simp)
theorem KRow.more (h:KRow k w base e ok xs v) (hs:∀ b,ok b→ok' b) (h1:∀ b,ok' b→some b≠v.ownBlock) (h2:∀ b,ok' b→b < w.heap.size):KRow k w base e ok' xs v:=by
 obtain⟨⟨vs,h3,h4⟩,h5,h6⟩:=h
 exact⟨⟨vs,h3,h4.stay (Stays.weaken hs)⟩,h1,h2⟩
theorem KRow.sk (h:KRow k w base e ok xs v):Kd.SK k w (λb=>ok b∨some b=v.ownBlock) xs v:=by
 obtain⟨⟨vs,h3,h4⟩,h5,h6⟩:=h
 have h4':=h4.stay (Stays.weaken (ok':=λb=>ok b∨some b=v.ownBlock) λb hb=>.inl hb)
 rcases h3.2 with ⟨rfl,h0⟩|⟨g,cap,cur,rfl,hg,hh,hnc,hcm,hsz,htk⟩
 ·obtain rfl:xs=[]:=List.eq_nil_of_length_eq_zero h0
  exact Kd.SK.nil 0 (Nat.zero_le _) .none
 ·refine⟨_,cap,vs,rfl,hnc,hcm,λj hj=>⟨g,0,rfl,.inr rfl,?_⟩,h4'⟩
  unfold World.cell?
  rw[hh,Nat.zero_add]
  have hj':j < xs.length*k.size:=by rw[←h3.1];exact hj
  have:cur.toList[j]?=vs[j]?:=by rw[←htk,List.getElem?_take,if_pos hj']
  simpa [List.getElem?_eq_getElem hj] using this
end
section
variable {w:World} {ops:Array Oper} {rest:List Oper} {o:Oper} {a:Act} {Q:Exit→Act→World→Prop} {α:Type} {k:Kd α}
theorem appK {e by_:Nat} {z:Value} (hI:EI e k.size by_ z) {t:TypeId} (ht:Tryz.prog.underlying t=some (.slice e)) (hgd:o.guard=none) (s x:Operand) (ho:o.op=.call { callee:=.builtin .append,args:=#[s,x],argTypes:=#[t,t] })
  {base:Nat} {v:Value} {ok:Nat→Prop} {xs:List α} (hs:a.eval s=v) (h:KRow k w base e ok xs v) (hbase:base≤w.heap.size)
  {q:Nat} {y:α} {cs:List Value} (hx:a.eval x=.slice (some ⟨q,0,none⟩) 1 1) (hnews:Row w (some ⟨q,0,none⟩) cs) (hy:k.K w ok y cs) (hb:(xs.length+1)*by_≤140737488355328)
  (hnext:∀ v' w',KRow k w' base e ok (xs++[y]) v'→w.grownBy w' v.ownBlock→(v'.ownBlock=v.ownBlock∨v'.ownBlock=some w.heap.size)→wpList Tryz.prog ops Q rest (a.put o.dst v') w'):wpList Tryz.prog ops Q (o :: rest) a w:=by
 obtain⟨⟨vs,h3,h4⟩,h5,h6⟩:=h
 refine appW hI ht hgd s x ho hs h3 hbase hx hnews (by rw[k.len hy,Nat.one_mul]) (k.one hy) hb λv' w' ho' hg hw=>?_
 have hst:Stays w w' ok ok:=Stays.grown hg h5
 refine hnext v' w' ⟨⟨vs++cs,by simpa using ho',(h4.snoc hy).stay hst⟩,λb hb e=>?_,λb hb=>Nat.lt_of_lt_of_le (h6 b hb) hg.size⟩ hg hw
 rcases hw with hw|hw
 ·exact h5 b hb (by rw[←hw];exact e)
 ·rw[hw] at e
  have:=h6 b hb
  simp at e
  omega
end
theorem ski_own {w:World} {base:Nat} {v:Value} {l:List Int} (h:OwnI w base v l) (hl:∀ n∈l,(Lit.int .i64 n).wf=true):Kd.SK kI w (λb=>some b=v.ownBlock) l v:=by
 have h2:KRow kI w base 3 (λ_=>False) l v:=⟨⟨_,h,mk_ints hl⟩,λ_ h=>h.elim,λ_ h=>h.elim⟩
 exact h2.sk.stay (Stays.weaken λb hb=>by rcases hb with hb|hb;exact hb.elim;exact hb)
theorem iIns:EI 91 7 64 (.agg #[.int .u8 0,.int .u8 0,.int .i64 0,.int .i64 0,.int .i64 0,.int .i64 0,.slice none 0 0]):=EI.mk (by kernel_rfl) rfl (by omega) (by omega)
theorem iBlock:EI 97 5 56 (.agg #[.slice none 0 0,.int .u8 0,.int .i64 0,.int .i64 0,.int .i64 0]):=EI.mk (by kernel_rfl) rfl (by omega) (by omega)
end Go.Proofs.YtjkgligohegaeaaGreatDoor
