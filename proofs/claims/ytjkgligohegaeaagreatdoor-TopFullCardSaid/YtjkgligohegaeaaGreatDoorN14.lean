/- Lemmas of the row. -/
import Derived.Test.YtjkgligohegaeaaGreatDoorN13
set_option linter.all false
set_option maxRecDepth 20000
set_option maxHeartbeats 12800000
namespace Go.Proofs.YtjkgligohegaeaaGreatDoor
open Go.RowKit
theorem nx_lt (l:List UInt8) (n:Nat) (h:0 < n):nx l n < n:=by
 unfold nx
 split
 ·exact h
 ·exact Nat.mod_lt _ h
def nxs (v:Nat) (l:List UInt8) (m:Nat):List Int:=(List.range m).map λj=>(nx (l.drop j) v:Int)
def insOf (l:List UInt8) (v:Nat):Ins × List UInt8 :=
 let a:=l.tail
 let b:=a.tail
 let c:=b.tail
 let d:=c.tail
 let e:=d.tail
 match nx l 9 with
 |0=>(⟨1,0,nx a v,0,0,(nx b 256:Int)-3,[]⟩,c)
 |3=>(⟨4,0,nx a v,nx b v,0,0,[]⟩,c)
 |4=>(⟨5,0,0,nx a v,nx b v,0,[]⟩,c)
 |5=>(⟨6,0,nx a v,0,0,nx b 5,nxs v d (nx c 4)⟩,d.drop (nx c 4))
 |1=>(⟨2,0,nx a v,nx b v,0,0,[]⟩,c)
 |6=>(⟨2,0,nx a v,nx b v,0,0,[]⟩,c)
 |_=>(⟨3,1+(nx a 7:Int),nx b v,nx c v,nx d v,0,[]⟩,e)
structure MI (w X:World) (p q:Nat) (l:List UInt8) (zs:List Value):Prop where
 grown:w.grownBy X (some p)
 rd:MkAt X p l
 pw:p < w.heap.size
 wq:w.heap.size≤q
 qx:q < X.heap.size
 res:X.heap[q]?=some (.cells zs.toArray 91 (0,0))
theorem mi0 {w:World} {p:Nat} {l:List UInt8} (hp:p < w.heap.size) (h:MkAt w p l):MI w (w.alloc (.cells #[.int .u8 0,.int .u8 0,.int .i64 0,.int .i64 0,.int .i64 0,.int .i64 0,.slice none 0 0] 91)) p w.heap.size l [.int .u8 0,.int .u8 0,.int .i64 0,.int .i64 0,.int .i64 0,.int .i64 0,.slice none 0 0]:=⟨grownBy_below (bA (bR _) _),h.below (bA (bR _) _),hp,Nat.le_refl _,by simp,heap_new _ _⟩
structure MV (w X:World) (p q bi:Nat) (l:List UInt8) (zs cs:List Value):Prop extends MI w X p q l zs where
 qb:q < bi
 bx:bi < X.heap.size
 var:X.heap[bi]?=some (.cells cs.toArray 91 (0,0))
section
variable {w X X':World} {p q bi:Nat} {l l':List UInt8} {zs cs:List Value}
theorem MI.step (h:MI w X p q l zs) (hs:MkStep X X' p l'):MI w X' p q l' zs :=
 { h with
  grown:=grownBy_trans h.grown hs.grown
  rd:=hs.rd
  qx:=Nat.lt_of_lt_of_le h.qx hs.grown.size
  res:=by have:=h.pw;have:=h.wq;rw[hs.grown.block q h.qx (by simp;omega)];exact h.res }
theorem MI.bel (h:MI w X p q l zs) (hb:Bel X X'):MI w X' p q l zs :=
 { h with
  grown:=grownBy_trans h.grown (grownBy_below hb)
  rd:=h.rd.below hb
  qx:=Nat.lt_of_lt_of_le h.qx hb.size
  res:=bHeap hb h.res }
theorem MI.set (h:MI w X p q l zs) (k:Nat) (v:Value):MI w (X.setCell ⟨q,k,none⟩ v) p q l (zs.set k v) :=
 { h with
  grown:=grown_set h.grown h.wq k v
  rd:=h.rd.set (by have:=h.pw;have:=h.wq;omega) k v
  qx:=by simpa using h.qx
  res:=set_at h.res k v }
theorem MI.own (h:MI w X p q l zs) {row:Option Nat} (hg:X.grownBy X' row) (hr:∀ k,row=some k→q < k):MI w X' p q l zs :=
 { h with
  grown:=grown_own h.grown hg (λk hk=>by have:=hr k hk;have:=h.wq;omega)
  rd:=h.rd.growN (λk hk=>by have:=hr k hk;have:=h.wq;have:=h.pw;omega) hg
  qx:=Nat.lt_of_lt_of_le h.qx hg.size
  res:=by rw[hg.block q h.qx (λe=>by have:=hr q e.symm;omega)];exact h.res }
theorem MI.fin (h:MI w X p q l zs):MkStep w X p l:=⟨h.grown,h.rd⟩
theorem MV.step (h:MV w X p q bi l zs cs) (hs:MkStep X X' p l'):MV w X' p q bi l' zs cs :=
 { h with
  toMI:=h.toMI.step hs
  bx:=Nat.lt_of_lt_of_le h.bx hs.grown.size
  var:=by have:=h.pw;have:=h.wq;have:=h.qb;rw[hs.grown.block bi h.bx (by simp;omega)];exact h.var }
theorem MV.bel (h:MV w X p q bi l zs cs) (hb:Bel X X'):MV w X' p q bi l zs cs :=
 { h with
  toMI:=h.toMI.bel hb
  bx:=Nat.lt_of_lt_of_le h.bx hb.size
  var:=bHeap hb h.var }
theorem MV.own (h:MV w X p q bi l zs cs) {row:Option Nat} (hg:X.grownBy X' row) (hr:∀ k,row=some k→bi < k):MV w X' p q bi l zs cs :=
 { h with
  toMI:=h.toMI.own hg (λk hk=>by have:=hr k hk;have:=h.qb;omega)
  bx:=Nat.lt_of_lt_of_le h.bx hg.size
  var:=by rw[hg.block bi h.bx (λe=>by have:=hr bi e.symm;omega)];exact h.var }
theorem MV.set (h:MV w X p q bi l zs cs) (k:Nat) (v:Value):MV w (X.setCell ⟨bi,k,none⟩ v) p q bi l zs (cs.set k v) :=
 { h with
  grown:=grown_set h.grown (by have:=h.wq;have:=h.qb;omega) k v
  rd:=h.rd.set (by have:=h.pw;have:=h.wq;have:=h.qb;omega) k v
  qx:=by simpa using h.qx
  res:=by have:=h.qb;rw[heap_setCell_other X ⟨bi,k,none⟩ q v (by simp only;omega)];exact h.res
  bx:=by simpa using h.bx
  var:=set_at h.var k v }
end
def MInsPost (w:World) (p:Nat) (l:List UInt8) (v:Nat) (e:Ending) (w':World):Prop:=MkStep w w' p (insOf l v).2∧∃ V,e=.returned (insV (insOf l v).1 V)∧OwnI w' w.heap.size V (insOf l v).1.args
theorem mins_0 (p:Nat) (l:List UInt8) (v:Nat) (hv:0 < v) (hv2:v≤40) (hk:nx l 9=0) (w:World) (h:MkAt w p l):Calls Tryz.prog 91 #[.pointer (some ⟨p,0,none⟩),.int .i64 v] w (MInsPost w p l v):=by
 have hp:=h.lt
 have HK:=Hm hk
 have H0:=Hm h
 clear h
 have hn3:nx l.tail.tail 256 < 256:=nx_lt _ _ (by omega)
 have hwn:IntKind.i64.wrap (((nx l.tail.tail 256:Nat):Int)-3)=((nx l.tail.tail 256:Nat):Int)-3:=Go.IntWalk.i64_in _ (by omega)
 go_enter Tryz.func91,Tryz.ntmps91
 go_wp2_with fail
 have HR:=Hm (mi0 hp H0.o)
 clear H0
 refine(mnext_any p (l) 9 (by omega) (by omega) _ HR.o.rd).mono ?_
 rintro e X' ⟨rfl,hs⟩
 have HR':=Hm (HR.o.step hs)
 clear hs HR
 have HR:=HR'
 clear HR'
 rw[hk]
 go_wp2_with fail
 refine(mnext_any p (l.tail) v (by omega) (by omega) _ HR.o.rd).mono ?_
 rintro e X' ⟨rfl,hs⟩
 have HR':=Hm (HR.o.step hs)
 clear hs HR
 have HR:=HR'
 clear HR'
 go_wp2_with fail
 refine(mnext_any p (l.tail.tail) 256 (by omega) (by omega) _ HR.o.rd).mono ?_
 rintro e X' ⟨rfl,hs⟩
 have HR':=Hm (HR.o.step hs)
 clear hs HR
 have HR:=HR'
 clear HR'
 obtain⟨z0,z1,z2,z3,z4,z5,z6⟩:=cC7 HR.o.res
 obtain⟨g0,g1,g2,g3,g4,g5,g6⟩:=fF7 HR.o.res
 have hqx:=HR.o.qx
 have HFin:=Hm (((((((HR.o.set 0 (.int .u8 1)).set 1 (.int .u8 0)).set 2 (.int .i64 ((nx (l.tail) v:Nat):Int))).set 3 (.int .i64 0)).set 4 (.int .i64 0)).set 5 (.int .i64 (((nx (l.tail.tail) 256:Nat):Int)-3))).set 6 (.slice none 0 0))
 go_wp2_with fail
 obtain⟨y0,y1,y2,y3,y4,y5,y6⟩:=cC7 HFin.o.res
 refine bodyPost_ret (v:=.agg #[.int .u8 1,.int .u8 0,.int .i64 ((nx (l.tail) v:Nat):Int),.int .i64 0,.int .i64 0,.int .i64 (((nx (l.tail.tail) 256:Nat):Int)-3),.slice none 0 0]) (by simp[results,Tryz.results91,go_sem,y0,y1,y2,y3,y4,y5,y6]) rfl ?_
 unfold MInsPost insOf
 rw[HK.o]
 exact⟨HFin.o.fin,_,rfl,by simpa [OwnI] using own_none _ w.heap.size 3 1 0 rfl⟩
theorem mins_3 (p:Nat) (l:List UInt8) (v:Nat) (hv:0 < v) (hv2:v≤40) (hk:nx l 9=3) (w:World) (h:MkAt w p l):Calls Tryz.prog 91 #[.pointer (some ⟨p,0,none⟩),.int .i64 v] w (MInsPost w p l v):=by
 have hp:=h.lt
 have HK:=Hm hk
 have H0:=Hm h
 clear h
 go_enter Tryz.func91,Tryz.ntmps91
 go_wp2_with fail
 have HR:=Hm (mi0 hp H0.o)
 clear H0
 refine(mnext_any p (l) 9 (by omega) (by omega) _ HR.o.rd).mono ?_
 rintro e X' ⟨rfl,hs⟩
 have HR':=Hm (HR.o.step hs)
 clear hs HR
 have HR:=HR'
 clear HR'
 rw[hk]
 go_wp2_with fail
 refine(mnext_any p (l.tail) v (by omega) (by omega) _ HR.o.rd).mono ?_
 rintro e X' ⟨rfl,hs⟩
 have HR':=Hm (HR.o.step hs)
 clear hs HR
 have HR:=HR'
 clear HR'
 go_wp2_with fail
 refine(mnext_any p (l.tail.tail) v (by omega) (by omega) _ HR.o.rd).mono ?_
 rintro e X' ⟨rfl,hs⟩
 have HR':=Hm (HR.o.step hs)
 clear hs HR
 have HR:=HR'
 clear HR'
 obtain⟨z0,z1,z2,z3,z4,z5,z6⟩:=cC7 HR.o.res
 obtain⟨g0,g1,g2,g3,g4,g5,g6⟩:=fF7 HR.o.res
 have hqx:=HR.o.qx
 have HFin:=Hm (((((((HR.o.set 0 (.int .u8 4)).set 1 (.int .u8 0)).set 2 (.int .i64 ((nx (l.tail) v:Nat):Int))).set 3 (.int .i64 ((nx (l.tail.tail) v:Nat):Int))).set 4 (.int .i64 0)).set 5 (.int .i64 0)).set 6 (.slice none 0 0))
 go_wp2_with fail
 obtain⟨y0,y1,y2,y3,y4,y5,y6⟩:=cC7 HFin.o.res
 refine bodyPost_ret (v:=.agg #[.int .u8 4,.int .u8 0,.int .i64 ((nx (l.tail) v:Nat):Int),.int .i64 ((nx (l.tail.tail) v:Nat):Int),.int .i64 0,.int .i64 0,.slice none 0 0]) (by simp[results,Tryz.results91,go_sem,y0,y1,y2,y3,y4,y5,y6]) rfl ?_
 unfold MInsPost insOf
 rw[HK.o]
 exact⟨HFin.o.fin,_,rfl,by simpa [OwnI] using own_none _ w.heap.size 3 1 0 rfl⟩
theorem mins_4 (p:Nat) (l:List UInt8) (v:Nat) (hv:0 < v) (hv2:v≤40) (hk:nx l 9=4) (w:World) (h:MkAt w p l):Calls Tryz.prog 91 #[.pointer (some ⟨p,0,none⟩),.int .i64 v] w (MInsPost w p l v):=by
 have hp:=h.lt
 have HK:=Hm hk
 have H0:=Hm h
 clear h
 go_enter Tryz.func91,Tryz.ntmps91
 go_wp2_with fail
 have HR:=Hm (mi0 hp H0.o)
 clear H0
 refine(mnext_any p (l) 9 (by omega) (by omega) _ HR.o.rd).mono ?_
 rintro e X' ⟨rfl,hs⟩
 have HR':=Hm (HR.o.step hs)
 clear hs HR
 have HR:=HR'
 clear HR'
 rw[hk]
 go_wp2_with fail
 refine(mnext_any p (l.tail) v (by omega) (by omega) _ HR.o.rd).mono ?_
 rintro e X' ⟨rfl,hs⟩
 have HR':=Hm (HR.o.step hs)
 clear hs HR
 have HR:=HR'
 clear HR'
 go_wp2_with fail
 refine(mnext_any p (l.tail.tail) v (by omega) (by omega) _ HR.o.rd).mono ?_
 rintro e X' ⟨rfl,hs⟩
 have HR':=Hm (HR.o.step hs)
 clear hs HR
 have HR:=HR'
 clear HR'
 obtain⟨z0,z1,z2,z3,z4,z5,z6⟩:=cC7 HR.o.res
 obtain⟨g0,g1,g2,g3,g4,g5,g6⟩:=fF7 HR.o.res
 have hqx:=HR.o.qx
 have HFin:=Hm (((((((HR.o.set 0 (.int .u8 5)).set 1 (.int .u8 0)).set 2 (.int .i64 0)).set 3 (.int .i64 ((nx (l.tail) v:Nat):Int))).set 4 (.int .i64 ((nx (l.tail.tail) v:Nat):Int))).set 5 (.int .i64 0)).set 6 (.slice none 0 0))
 go_wp2_with fail
 obtain⟨y0,y1,y2,y3,y4,y5,y6⟩:=cC7 HFin.o.res
 refine bodyPost_ret (v:=.agg #[.int .u8 5,.int .u8 0,.int .i64 0,.int .i64 ((nx (l.tail) v:Nat):Int),.int .i64 ((nx (l.tail.tail) v:Nat):Int),.int .i64 0,.slice none 0 0]) (by simp[results,Tryz.results91,go_sem,y0,y1,y2,y3,y4,y5,y6]) rfl ?_
 unfold MInsPost insOf
 rw[HK.o]
 exact⟨HFin.o.fin,_,rfl,by simpa [OwnI] using own_none _ w.heap.size 3 1 0 rfl⟩
theorem mins_1 (p:Nat) (l:List UInt8) (v:Nat) (hv:0 < v) (hv2:v≤40) (hk:nx l 9=1) (w:World) (h:MkAt w p l):Calls Tryz.prog 91 #[.pointer (some ⟨p,0,none⟩),.int .i64 v] w (MInsPost w p l v):=by
 have hp:=h.lt
 have HK:=Hm hk
 have H0:=Hm h
 clear h
 go_enter Tryz.func91,Tryz.ntmps91
 go_wp2_with fail
 have HR:=Hm (mi0 hp H0.o)
 clear H0
 refine(mnext_any p (l) 9 (by omega) (by omega) _ HR.o.rd).mono ?_
 rintro e X' ⟨rfl,hs⟩
 have HR':=Hm (HR.o.step hs)
 clear hs HR
 have HR:=HR'
 clear HR'
 rw[hk]
 go_wp2_with fail
 refine(mnext_any p (l.tail) v (by omega) (by omega) _ HR.o.rd).mono ?_
 rintro e X' ⟨rfl,hs⟩
 have HR':=Hm (HR.o.step hs)
 clear hs HR
 have HR:=HR'
 clear HR'
 go_wp2_with fail
 refine(mnext_any p (l.tail.tail) v (by omega) (by omega) _ HR.o.rd).mono ?_
 rintro e X' ⟨rfl,hs⟩
 have HR':=Hm (HR.o.step hs)
 clear hs HR
 have HR:=HR'
 clear HR'
 obtain⟨z0,z1,z2,z3,z4,z5,z6⟩:=cC7 HR.o.res
 obtain⟨g0,g1,g2,g3,g4,g5,g6⟩:=fF7 HR.o.res
 have hqx:=HR.o.qx
 have HFin:=Hm (((((((HR.o.set 0 (.int .u8 2)).set 1 (.int .u8 0)).set 2 (.int .i64 ((nx (l.tail) v:Nat):Int))).set 3 (.int .i64 ((nx (l.tail.tail) v:Nat):Int))).set 4 (.int .i64 0)).set 5 (.int .i64 0)).set 6 (.slice none 0 0))
 go_wp2_with fail
 obtain⟨y0,y1,y2,y3,y4,y5,y6⟩:=cC7 HFin.o.res
 refine bodyPost_ret (v:=.agg #[.int .u8 2,.int .u8 0,.int .i64 ((nx (l.tail) v:Nat):Int),.int .i64 ((nx (l.tail.tail) v:Nat):Int),.int .i64 0,.int .i64 0,.slice none 0 0]) (by simp[results,Tryz.results91,go_sem,y0,y1,y2,y3,y4,y5,y6]) rfl ?_
 unfold MInsPost insOf
 rw[HK.o]
 exact⟨HFin.o.fin,_,rfl,by simpa [OwnI] using own_none _ w.heap.size 3 1 0 rfl⟩
theorem mins_6 (p:Nat) (l:List UInt8) (v:Nat) (hv:0 < v) (hv2:v≤40) (hk:nx l 9=6) (w:World) (h:MkAt w p l):Calls Tryz.prog 91 #[.pointer (some ⟨p,0,none⟩),.int .i64 v] w (MInsPost w p l v):=by
 have hp:=h.lt
 have HK:=Hm hk
 have H0:=Hm h
 clear h
 go_enter Tryz.func91,Tryz.ntmps91
 go_wp2_with fail
 have HR:=Hm (mi0 hp H0.o)
 clear H0
 refine(mnext_any p (l) 9 (by omega) (by omega) _ HR.o.rd).mono ?_
 rintro e X' ⟨rfl,hs⟩
 have HR':=Hm (HR.o.step hs)
 clear hs HR
 have HR:=HR'
 clear HR'
 rw[hk]
 go_wp2_with fail
 refine(mnext_any p (l.tail) v (by omega) (by omega) _ HR.o.rd).mono ?_
 rintro e X' ⟨rfl,hs⟩
 have HR':=Hm (HR.o.step hs)
 clear hs HR
 have HR:=HR'
 clear HR'
 go_wp2_with fail
 refine(mnext_any p (l.tail.tail) v (by omega) (by omega) _ HR.o.rd).mono ?_
 rintro e X' ⟨rfl,hs⟩
 have HR':=Hm (HR.o.step hs)
 clear hs HR
 have HR:=HR'
 clear HR'
 obtain⟨z0,z1,z2,z3,z4,z5,z6⟩:=cC7 HR.o.res
 obtain⟨g0,g1,g2,g3,g4,g5,g6⟩:=fF7 HR.o.res
 have hqx:=HR.o.qx
 have HFin:=Hm (((((((HR.o.set 0 (.int .u8 2)).set 1 (.int .u8 0)).set 2 (.int .i64 ((nx (l.tail) v:Nat):Int))).set 3 (.int .i64 ((nx (l.tail.tail) v:Nat):Int))).set 4 (.int .i64 0)).set 5 (.int .i64 0)).set 6 (.slice none 0 0))
 go_wp2_with fail
 obtain⟨y0,y1,y2,y3,y4,y5,y6⟩:=cC7 HFin.o.res
 refine bodyPost_ret (v:=.agg #[.int .u8 2,.int .u8 0,.int .i64 ((nx (l.tail) v:Nat):Int),.int .i64 ((nx (l.tail.tail) v:Nat):Int),.int .i64 0,.int .i64 0,.slice none 0 0]) (by simp[results,Tryz.results91,go_sem,y0,y1,y2,y3,y4,y5,y6]) rfl ?_
 unfold MInsPost insOf
 rw[HK.o]
 exact⟨HFin.o.fin,_,rfl,by simpa [OwnI] using own_none _ w.heap.size 3 1 0 rfl⟩
theorem mins_2 (p:Nat) (l:List UInt8) (v:Nat) (hv:0 < v) (hv2:v≤40) (hk:nx l 9=2) (w:World) (h:MkAt w p l):Calls Tryz.prog 91 #[.pointer (some ⟨p,0,none⟩),.int .i64 v] w (MInsPost w p l v):=by
 have hp:=h.lt
 have HK:=Hm hk
 have H0:=Hm h
 clear h
 have hn7:nx l.tail 7 < 7:=nx_lt _ _ (by omega)
 have hwo:IntKind.u8.wrap (1+((nx l.tail 7:Nat):Int))=1+((nx l.tail 7:Nat):Int):=Go.IntWalk.u8_in _ (by omega)
 have hwo2:IntKind.i64.wrap (1+((nx l.tail 7:Nat):Int))=1+((nx l.tail 7:Nat):Int):=Go.IntWalk.i64_in _ (by omega)
 go_enter Tryz.func91,Tryz.ntmps91
 go_wp2_with fail
 have HR:=Hm (mi0 hp H0.o)
 clear H0
 refine(mnext_any p (l) 9 (by omega) (by omega) _ HR.o.rd).mono ?_
 rintro e X' ⟨rfl,hs⟩
 have HR':=Hm (HR.o.step hs)
 clear hs HR
 have HR:=HR'
 clear HR'
 rw[hk]
 go_wp2_with fail
 refine(mnext_any p (l.tail) 7 (by omega) (by omega) _ HR.o.rd).mono ?_
 rintro e X' ⟨rfl,hs⟩
 have HR':=Hm (HR.o.step hs)
 clear hs HR
 have HR:=HR'
 clear HR'
 go_wp2_with fail
 refine(mnext_any p (l.tail.tail) v (by omega) (by omega) _ HR.o.rd).mono ?_
 rintro e X' ⟨rfl,hs⟩
 have HR':=Hm (HR.o.step hs)
 clear hs HR
 have HR:=HR'
 clear HR'
 go_wp2_with fail
 refine(mnext_any p (l.tail.tail.tail) v (by omega) (by omega) _ HR.o.rd).mono ?_
 rintro e X' ⟨rfl,hs⟩
 have HR':=Hm (HR.o.step hs)
 clear hs HR
 have HR:=HR'
 clear HR'
 go_wp2_with fail
 refine(mnext_any p (l.tail.tail.tail.tail) v (by omega) (by omega) _ HR.o.rd).mono ?_
 rintro e X' ⟨rfl,hs⟩
 have HR':=Hm (HR.o.step hs)
 clear hs HR
 have HR:=HR'
 clear HR'
 obtain⟨z0,z1,z2,z3,z4,z5,z6⟩:=cC7 HR.o.res
 obtain⟨g0,g1,g2,g3,g4,g5,g6⟩:=fF7 HR.o.res
 have hqx:=HR.o.qx
 have HFin:=Hm (((((((HR.o.set 0 (.int .u8 3)).set 1 (.int .u8 (1+((nx (l.tail) 7:Nat):Int)))).set 2 (.int .i64 ((nx (l.tail.tail) v:Nat):Int))).set 3 (.int .i64 ((nx (l.tail.tail.tail) v:Nat):Int))).set 4 (.int .i64 ((nx (l.tail.tail.tail.tail) v:Nat):Int))).set 5 (.int .i64 0)).set 6 (.slice none 0 0))
 go_wp2_with fail
 obtain⟨y0,y1,y2,y3,y4,y5,y6⟩:=cC7 HFin.o.res
 refine bodyPost_ret (v:=.agg #[.int .u8 3,.int .u8 (1+((nx (l.tail) 7:Nat):Int)),.int .i64 ((nx (l.tail.tail) v:Nat):Int),.int .i64 ((nx (l.tail.tail.tail) v:Nat):Int),.int .i64 ((nx (l.tail.tail.tail.tail) v:Nat):Int),.int .i64 0,.slice none 0 0]) (by simp[results,Tryz.results91,go_sem,y0,y1,y2,y3,y4,y5,y6]) rfl ?_
 unfold MInsPost insOf
 rw[HK.o]
 exact⟨HFin.o.fin,_,rfl,by simpa [OwnI] using own_none _ w.heap.size 3 1 0 rfl⟩
theorem mins_7 (p:Nat) (l:List UInt8) (v:Nat) (hv:0 < v) (hv2:v≤40) (hk:nx l 9=7) (w:World) (h:MkAt w p l):Calls Tryz.prog 91 #[.pointer (some ⟨p,0,none⟩),.int .i64 v] w (MInsPost w p l v):=by
 have hp:=h.lt
 have HK:=Hm hk
 have H0:=Hm h
 clear h
 have hn7:nx l.tail 7 < 7:=nx_lt _ _ (by omega)
 have hwo:IntKind.u8.wrap (1+((nx l.tail 7:Nat):Int))=1+((nx l.tail 7:Nat):Int):=Go.IntWalk.u8_in _ (by omega)
 have hwo2:IntKind.i64.wrap (1+((nx l.tail 7:Nat):Int))=1+((nx l.tail 7:Nat):Int):=Go.IntWalk.i64_in _ (by omega)
 go_enter Tryz.func91,Tryz.ntmps91
 go_wp2_with fail
 have HR:=Hm (mi0 hp H0.o)
 clear H0
 refine(mnext_any p (l) 9 (by omega) (by omega) _ HR.o.rd).mono ?_
 rintro e X' ⟨rfl,hs⟩
 have HR':=Hm (HR.o.step hs)
 clear hs HR
 have HR:=HR'
 clear HR'
 rw[hk]
 go_wp2_with fail
 refine(mnext_any p (l.tail) 7 (by omega) (by omega) _ HR.o.rd).mono ?_
 rintro e X' ⟨rfl,hs⟩
 have HR':=Hm (HR.o.step hs)
 clear hs HR
 have HR:=HR'
 clear HR'
 go_wp2_with fail
 refine(mnext_any p (l.tail.tail) v (by omega) (by omega) _ HR.o.rd).mono ?_
 rintro e X' ⟨rfl,hs⟩
 have HR':=Hm (HR.o.step hs)
 clear hs HR
 have HR:=HR'
 clear HR'
 go_wp2_with fail
 refine(mnext_any p (l.tail.tail.tail) v (by omega) (by omega) _ HR.o.rd).mono ?_
 rintro e X' ⟨rfl,hs⟩
 have HR':=Hm (HR.o.step hs)
 clear hs HR
 have HR:=HR'
 clear HR'
 go_wp2_with fail
 refine(mnext_any p (l.tail.tail.tail.tail) v (by omega) (by omega) _ HR.o.rd).mono ?_
 rintro e X' ⟨rfl,hs⟩
 have HR':=Hm (HR.o.step hs)
 clear hs HR
 have HR:=HR'
 clear HR'
 obtain⟨z0,z1,z2,z3,z4,z5,z6⟩:=cC7 HR.o.res
 obtain⟨g0,g1,g2,g3,g4,g5,g6⟩:=fF7 HR.o.res
 have hqx:=HR.o.qx
 have HFin:=Hm (((((((HR.o.set 0 (.int .u8 3)).set 1 (.int .u8 (1+((nx (l.tail) 7:Nat):Int)))).set 2 (.int .i64 ((nx (l.tail.tail) v:Nat):Int))).set 3 (.int .i64 ((nx (l.tail.tail.tail) v:Nat):Int))).set 4 (.int .i64 ((nx (l.tail.tail.tail.tail) v:Nat):Int))).set 5 (.int .i64 0)).set 6 (.slice none 0 0))
 go_wp2_with fail
 obtain⟨y0,y1,y2,y3,y4,y5,y6⟩:=cC7 HFin.o.res
 refine bodyPost_ret (v:=.agg #[.int .u8 3,.int .u8 (1+((nx (l.tail) 7:Nat):Int)),.int .i64 ((nx (l.tail.tail) v:Nat):Int),.int .i64 ((nx (l.tail.tail.tail) v:Nat):Int),.int .i64 ((nx (l.tail.tail.tail.tail) v:Nat):Int),.int .i64 0,.slice none 0 0]) (by simp[results,Tryz.results91,go_sem,y0,y1,y2,y3,y4,y5,y6]) rfl ?_
 unfold MInsPost insOf
 rw[HK.o]
 exact⟨HFin.o.fin,_,rfl,by simpa [OwnI] using own_none _ w.heap.size 3 1 0 rfl⟩
theorem mins_8 (p:Nat) (l:List UInt8) (v:Nat) (hv:0 < v) (hv2:v≤40) (hk:nx l 9=8) (w:World) (h:MkAt w p l):Calls Tryz.prog 91 #[.pointer (some ⟨p,0,none⟩),.int .i64 v] w (MInsPost w p l v):=by
 have hp:=h.lt
 have HK:=Hm hk
 have H0:=Hm h
 clear h
 have hn7:nx l.tail 7 < 7:=nx_lt _ _ (by omega)
 have hwo:IntKind.u8.wrap (1+((nx l.tail 7:Nat):Int))=1+((nx l.tail 7:Nat):Int):=Go.IntWalk.u8_in _ (by omega)
 have hwo2:IntKind.i64.wrap (1+((nx l.tail 7:Nat):Int))=1+((nx l.tail 7:Nat):Int):=Go.IntWalk.i64_in _ (by omega)
 go_enter Tryz.func91,Tryz.ntmps91
 go_wp2_with fail
 have HR:=Hm (mi0 hp H0.o)
 clear H0
 refine(mnext_any p (l) 9 (by omega) (by omega) _ HR.o.rd).mono ?_
 rintro e X' ⟨rfl,hs⟩
 have HR':=Hm (HR.o.step hs)
 clear hs HR
 have HR:=HR'
 clear HR'
 rw[hk]
 go_wp2_with fail
 refine(mnext_any p (l.tail) 7 (by omega) (by omega) _ HR.o.rd).mono ?_
 rintro e X' ⟨rfl,hs⟩
 have HR':=Hm (HR.o.step hs)
 clear hs HR
 have HR:=HR'
 clear HR'
 go_wp2_with fail
 refine(mnext_any p (l.tail.tail) v (by omega) (by omega) _ HR.o.rd).mono ?_
 rintro e X' ⟨rfl,hs⟩
 have HR':=Hm (HR.o.step hs)
 clear hs HR
 have HR:=HR'
 clear HR'
 go_wp2_with fail
 refine(mnext_any p (l.tail.tail.tail) v (by omega) (by omega) _ HR.o.rd).mono ?_
 rintro e X' ⟨rfl,hs⟩
 have HR':=Hm (HR.o.step hs)
 clear hs HR
 have HR:=HR'
 clear HR'
 go_wp2_with fail
 refine(mnext_any p (l.tail.tail.tail.tail) v (by omega) (by omega) _ HR.o.rd).mono ?_
 rintro e X' ⟨rfl,hs⟩
 have HR':=Hm (HR.o.step hs)
 clear hs HR
 have HR:=HR'
 clear HR'
 obtain⟨z0,z1,z2,z3,z4,z5,z6⟩:=cC7 HR.o.res
 obtain⟨g0,g1,g2,g3,g4,g5,g6⟩:=fF7 HR.o.res
 have hqx:=HR.o.qx
 have HFin:=Hm (((((((HR.o.set 0 (.int .u8 3)).set 1 (.int .u8 (1+((nx (l.tail) 7:Nat):Int)))).set 2 (.int .i64 ((nx (l.tail.tail) v:Nat):Int))).set 3 (.int .i64 ((nx (l.tail.tail.tail) v:Nat):Int))).set 4 (.int .i64 ((nx (l.tail.tail.tail.tail) v:Nat):Int))).set 5 (.int .i64 0)).set 6 (.slice none 0 0))
 go_wp2_with fail
 obtain⟨y0,y1,y2,y3,y4,y5,y6⟩:=cC7 HFin.o.res
 refine bodyPost_ret (v:=.agg #[.int .u8 3,.int .u8 (1+((nx (l.tail) 7:Nat):Int)),.int .i64 ((nx (l.tail.tail) v:Nat):Int),.int .i64 ((nx (l.tail.tail.tail) v:Nat):Int),.int .i64 ((nx (l.tail.tail.tail.tail) v:Nat):Int),.int .i64 0,.slice none 0 0]) (by simp[results,Tryz.results91,go_sem,y0,y1,y2,y3,y4,y5,y6]) rfl ?_
 unfold MInsPost insOf
 rw[HK.o]
 exact⟨HFin.o.fin,_,rfl,by simpa [OwnI] using own_none _ w.heap.size 3 1 0 rfl⟩
theorem nxs_succ (v:Nat) (l:List UInt8) (m:Nat):nxs v l (m+1)=nxs v l m++[(nx (l.drop m) v:Int)]:=by
 unfold nxs
 rw[List.range_succ,List.map_append]
 rfl
theorem nxs_len (v:Nat) (l:List UInt8) (m:Nat):(nxs v l m).length=m:=by simp[nxs]
theorem drop_tail (l:List UInt8) (m:Nat):(l.drop m).tail=l.drop (m+1):=by rw[List.tail_drop]
theorem mins_5 (p:Nat) (l:List UInt8) (v:Nat) (hv:0 < v) (hv2:v≤40) (hk:nx l 9=5) (w:World) (h:MkAt w p l):Calls Tryz.prog 91 #[.pointer (some ⟨p,0,none⟩),.int .i64 v] w (MInsPost w p l v):=by
 have hp:=h.lt
 have HK:=Hm hk
 have H0:=Hm h
 clear h
 go_enter Tryz.func91,Tryz.ntmps91
 go_wp2_with fail
 have HR:=Hm (mi0 hp H0.o)
 clear H0
 refine(mnext_any p (l) 9 (by omega) (by omega) _ HR.o.rd).mono ?_
 rintro e X' ⟨rfl,hs⟩
 have HR':=Hm (HR.o.step hs)
 clear hs HR
 have HR:=HR'
 clear HR'
 rw[hk]
 go_wp2_with fail
 refine(mnext_any p (l.tail) v (by omega) (by omega) _ HR.o.rd).mono ?_
 rintro e X' ⟨rfl,hs⟩
 have HR':=Hm (HR.o.step hs)
 clear hs HR
 have HR:=HR'
 clear HR'
 go_wp2_with fail
 refine(mnext_any p (l.tail.tail) 5 (by omega) (by omega) _ HR.o.rd).mono ?_
 rintro e X' ⟨rfl,hs⟩
 have HR':=Hm (HR.o.step hs)
 clear hs HR
 have HR:=HR'
 clear HR'
 obtain⟨bi,hbi⟩:∃ bi,bi=X'.heap.size:=⟨_,rfl⟩
 have HRV:Hd (MV w (X'.alloc (.cells #[.int .u8 6,.int .u8 0,.int .i64 ((nx (l.tail) v:Nat):Int),.int .i64 0,.int .i64 0,.int .i64 ((nx (l.tail.tail) 5:Nat):Int),.slice none 0 0] 91)) p w.heap.size bi l.tail.tail.tail [.int .u8 0,.int .u8 0,.int .i64 0,.int .i64 0,.int .i64 0,.int .i64 0,.slice none 0 0] [.int .u8 6,.int .u8 0,.int .i64 ((nx (l.tail) v:Nat):Int),.int .i64 0,.int .i64 0,.int .i64 ((nx (l.tail.tail) 5:Nat):Int),.slice none 0 0]):=⟨by
  subst hbi
  exact⟨HR.o.bel (bA (bR _) _),HR.o.qx,by simp,heap_new _ _⟩⟩
 have HBI:=Hm hbi
 clear hbi HR
 go_wp2_with fail
 obtain⟨X,hX⟩:∃ X,X=X'.alloc (.cells #[.int .u8 6,.int .u8 0,.int .i64 ((nx (l.tail) v:Nat):Int),.int .i64 0,.int .i64 0,.int .i64 ((nx (l.tail.tail) 5:Nat):Int),.slice none 0 0] 91):=⟨_,rfl⟩
 rw[←hX] at HRV⊢
 rw[←HBI.o]
 have HR:=HRV
 clear hX HBI HRV
 refine(mnext_any p (l.tail.tail.tail) 4 (by omega) (by omega) _ HR.o.rd).mono ?_
 rintro e X' ⟨rfl,hs⟩
 have HR':=Hm (HR.o.step hs)
 clear hs HR
 have HR:=HR'
 clear HR'
 obtain⟨m,hm⟩:∃ m,m=nx (l.tail.tail.tail) 4:=⟨_,rfl⟩
 obtain⟨L,hL⟩:∃ L,L=l.tail.tail.tail.tail:=⟨_,rfl⟩
 have hm4:m < 4:=by rw[hm];exact nx_lt _ _ (by omega)
 rw[←hm]
 rw[←hL] at HR
 have HM:=Hm (And.intro hm hL)
 clear hm hL
 obtain⟨n1,hn1⟩:∃ n1,n1=nx (l.tail) v:=⟨_,rfl⟩
 obtain⟨n2,hn2⟩:∃ n2,n2=nx (l.tail.tail) 5:=⟨_,rfl⟩
 rw[←hn1,←hn2] at HR⊢
 have HN:=Hm (And.intro hn1 hn2)
 clear hn1 hn2
 go_wp2_with fail
 have HR0:=HR
 clear HR
 go_loopw [53] (λi wr=>∃ j:Nat,j≤m∧i=.int .i64 j∧∃ V,MV w wr p w.heap.size bi (L.drop j) [.int .u8 0,.int .u8 0,.int .i64 0,.int .i64 0,.int .i64 0,.int .i64 0,.slice none 0 0] [.int .u8 6,.int .u8 0,.int .i64 n1,.int .i64 0,.int .i64 0,.int .i64 n2,V]∧OwnI wr (bi+1) V (nxs v L j)) (λi _=>m-(intOf i).toNat)
 case atStart=>exact⟨0,Nat.zero_le _,rfl,.slice none 0 0,HR0.o,(by simpa [OwnI,nxs] using own_none X' (bi+1) 3 1 0 rfl)⟩
 case round =>
  obtain⟨j,hj,rfl,V,hr,ho⟩:=hrel
  have HR:=Hm hr
  have HO:=Hm ho
  obtain⟨A6,k6,rfl,-,hl6,-,-,-⟩:=own_row ho
  rw[nxs_len] at HR HO
  clear hr ho hl6
  by_cases hlt:j < m
  ·have v0:wr.cell? ⟨bi,6,none⟩=some (.slice A6 j k6):=by rw[cell_at HR.o.var];rfl
   go_wp2_with fail
   refine rgn [.rd 0,.rd 1,.rd 2,.rd 3,.hv 4 [0,1],.hv 5 [0,1],.hv 6 [],.rd 7,.hv 8 []] (n:=89) rfl ?_
   iterate 4 (refine line_rd rfl (λK hK=>?_);go_simp;refine hK _ ?_;clear hK K)
   refine line_hv rfl ?_
   go_wp2_with fail
   refine(mnext_any p (L.drop j) v (by omega) (by omega) (World.drew wr) (HR.o.rd.below (bD (bR _)))).mono ?_
   rintro e X1 ⟨rfl,hs⟩
   rw[drop_tail] at hs
   have HR1:=Hm ((HR.o.bel (bD (bR _))).step hs)
   have HO1:Hd (OwnI X1 (bi+1) (.slice A6 j k6) (nxs v L j)):=⟨own_grown HO.o (grownBy_trans (grownBy_below (row:=some p) (bD (bR wr))) hs.grown) (λk hk=>by cases hk;have:=HR.o.pw;have:=HR.o.wq;have:=HR.o.qb;omega)⟩
   have v1:X1.cell? ⟨bi,6,none⟩=some (.slice A6 j k6):=by rw[cell_at HR1.o.var];rfl
   have hbx:bi < X1.heap.size:=HR1.o.bx
   clear hs HR HO v0
   have HT:=Hm (nxs_succ v L j)
   generalize nx (L.drop j) v=y at *
   go_wp2_with fail
   refine⟨?_,?_⟩
   ·simp only[Again,slotOf]
    go_simp
   refine line_hv rfl ?_
   go_wp2_with fail
   refine⟨?_,?_⟩
   ·simp only[Again,slotOf]
    go_simp
   refine line_hv rfl ?_
   have htl:(nxs v L j).length≤3:=by rw[nxs_len];omega
   refine app iInt Tryz.underlying29 rfl (.tmp 56) (.tmp 60) rfl rfl (HO1.o.alloc (.cells #[.int .i64 y] 3)) (show bi+1≤(X1.alloc (.cells #[.int .i64 y] 3)).heap.size by simp;omega) (A:=some ⟨X1.heap.size,0,none⟩) (m:=1) (c:=1) (news:=[.int .i64 y]) rfl (row_new _ _ _ _) (by simp) (by simp[Value.oneCell']) (by first|omega|(simp;omega)) ?_
   intro v5 X5 ho5 hg5
   have HO5:Hd (OwnI X5 (bi+1) v5 (nxs v L (j+1))):=⟨by rw[HT.o];simpa [OwnI] using ho5⟩
   have HR5:=Hm ((HR1.o.bel (bA (bR _) (.cells #[.int .i64 y] 3))).own hg5 (λk hk=>(HO1.o.lt k hk).1))
   obtain⟨A5,c5,rfl,-,-,-,-,-⟩:=own_row HO5.o
   rw[nxs_len] at HO5⊢
   have v5:X5.cell? ⟨bi,6,none⟩=some (.slice A6 j k6):=by rw[cell_at HR5.o.var];rfl
   have f5:=free_at HR5.o.var 6
   clear ho5 hg5 HR1 HO1 v1 hbx
   go_wp2_with fail
   refine⟨?_,?_⟩
   ·exact trivial
   refine line_rd rfl (λK hK=>?_);go_simp;refine hK _ ?_;clear hK K
   refine line_hv rfl ?_
   go_wp2_with fail
   refine⟨?_,?_⟩
   ·exact trivial
   unfold Line
   have HR6:=Hm (HR5.o.set 6 (.slice A5 (j+1) c5))
   simp only[List.set_cons_zero,List.set_cons_succ] at HR6
   have HO6:Hd (OwnI (X5.setCell ⟨bi,6,none⟩ (.slice A5 (j+1) c5)) (bi+1) (.slice A5 (j+1) c5) (nxs v L (j+1))):=⟨own_step HO5.o λg hg=>heap_setCell_other _ ⟨bi,6,none⟩ g _ (by simp only;omega)⟩
   clear HR5 HO5 v5 f5
   go_wp2_with fail
   go_roundw
   case rel=>exact⟨j+1,by omega,by go_num,_,HR6.o,HO6.o⟩
   case measure=>simp[intOf];omega
  ·obtain rfl:j=m:=by omega
   obtain⟨c0,c1,c2,c3,c4,c5,c6⟩:=cC7 HR.o.var
   obtain⟨z0,z1,z2,z3,z4,z5,z6⟩:=cC7 HR.o.res
   obtain⟨g0,g1,g2,g3,g4,g5,g6⟩:=fF7 HR.o.res
   have HFin:=Hm (((((((HR.o.toMI.set 0 (.int .u8 6)).set 1 (.int .u8 0)).set 2 (.int .i64 n1)).set 3 (.int .i64 0)).set 4 (.int .i64 0)).set 5 (.int .i64 n2)).set 6 (.slice A6 j k6))
   have hqb:=HR.o.qb
   have hbx:=HR.o.bx
   have HOF:Hd (OwnI (((((((wr.setCell ⟨w.heap.size,0,none⟩ (.int .u8 6)).setCell ⟨w.heap.size,1,none⟩ (.int .u8 0)).setCell ⟨w.heap.size,2,none⟩ (.int .i64 n1)).setCell ⟨w.heap.size,3,none⟩ (.int .i64 0)).setCell ⟨w.heap.size,4,none⟩ (.int .i64 0)).setCell ⟨w.heap.size,5,none⟩ (.int .i64 n2)).setCell ⟨w.heap.size,6,none⟩ (.slice A6 j k6)) w.heap.size (.slice A6 j k6) (nxs v L j)):=⟨by
    refine own_base (base:=bi+1) ?_ (by omega)
    have h0:=HO.o
    iterate 7 refine own_step (w:=_) ?_ (λg hg=>heap_setCell_other _ ⟨w.heap.size,_,none⟩ g _ (by simp only;omega))
    exact h0⟩
   clear HO
   go_wp2
   obtain⟨y0,y1,y2,y3,y4,y5,y6⟩:=cC7 HFin.o.res
   refine bodyPost_ret (v:=.agg #[.int .u8 6,.int .u8 0,.int .i64 n1,.int .i64 0,.int .i64 0,.int .i64 n2,.slice A6 j k6]) (by simp[results,Tryz.results91,go_sem,y0,y1,y2,y3,y4,y5,y6]) rfl ?_
   have he:insOf l v=(⟨6,0,n1,0,0,n2,nxs v L j⟩,L.drop j):=by
    unfold insOf
    rw[HK.o,HM.o.1,HM.o.2,HN.o.1,HN.o.2]
    rfl
   unfold MInsPost
   rw[he]
   exact⟨HFin.o.fin,_,rfl,HOF.o⟩
theorem mins_any (p:Nat) (l:List UInt8) (v:Nat) (hv:0 < v) (hv2:v≤40) (w:World) (h:MkAt w p l):Calls Tryz.prog 91 #[.pointer (some ⟨p,0,none⟩),.int .i64 v] w (MInsPost w p l v):=by
 have h9:nx l 9 < 9:=nx_lt _ _ (by omega)
 have:nx l 9=0∨nx l 9=1∨nx l 9=2∨nx l 9=3∨nx l 9=4∨nx l 9=5∨nx l 9=6∨nx l 9=7∨nx l 9=8:=by omega
 rcases this with e|e|e|e|e|e|e|e|e
 ·exact mins_0 p l v hv hv2 e w h
 ·exact mins_1 p l v hv hv2 e w h
 ·exact mins_2 p l v hv hv2 e w h
 ·exact mins_3 p l v hv hv2 e w h
 ·exact mins_4 p l v hv hv2 e w h
 ·exact mins_5 p l v hv hv2 e w h
 ·exact mins_6 p l v hv hv2 e w h
 ·exact mins_7 p l v hv hv2 e w h
 ·exact mins_8 p l v hv hv2 e w h
def insSeq (l:List UInt8) (v:Nat):Nat→List Ins × List UInt8
 |0=>([],l)
 |m+1=>((insSeq l v m).1++[(insOf (insSeq l v m).2 v).1],(insOf (insSeq l v m).2 v).2)
def endOf (l:List UInt8) (v n:Nat):End × List UInt8 :=
 match nx l 4 with
 |1=>(⟨1,0,nx l.tail n,0⟩,l.tail.tail)
 |2=>(⟨2,nx l.tail v,nx l.tail.tail n,nx l.tail.tail.tail n⟩,l.tail.tail.tail.tail)
 |3=>(⟨2,nx l.tail v,nx l.tail.tail n,nx l.tail.tail.tail n⟩,l.tail.tail.tail.tail)
 |_=>(⟨3,nx l.tail v,0,0⟩,l.tail.tail)
def blockOf (l:List UInt8) (v n:Nat):Block × List UInt8 :=
 (⟨(insSeq l.tail v (nx l 9)).1,(endOf (insSeq l.tail v (nx l 9)).2 v n).1⟩,(endOf (insSeq l.tail v (nx l 9)).2 v n).2)
def blockSeq (l:List UInt8) (v n:Nat):Nat→List Block × List UInt8
 |0=>([],l)
 |m+1=>((blockSeq l v n m).1++[(blockOf (blockSeq l v n m).2 v n).1],(blockOf (blockSeq l v n m).2 v n).2)
def vregsOf (pa vr:Nat):Nat:=max (pa % 5) 1+vr % 28
def madeOf (pa vr bl:Nat) (l:List UInt8):Func:=⟨(pa % 5:Nat),vregsOf pa vr,(blockSeq l (vregsOf pa vr) (1+bl % 7) (1+bl % 7)).1⟩
theorem insSeq_len (l:List UInt8) (v m:Nat):(insSeq l v m).1.length=m:=by
 induction m with
 |zero=>rfl
 |succ m ih=>simp[insSeq,ih]
theorem blockSeq_len (l:List UInt8) (v n m:Nat):(blockSeq l v n m).1.length=m:=by
 induction m with
 |zero=>rfl
 |succ m ih=>simp[blockSeq,ih]
theorem insOf_cases (l:List UInt8) (v:Nat):∃ a b c d e:List UInt8,
  insOf l v=(⟨1,0,nx a v,0,0,(nx b 256:Int)-3,[]⟩,c)∨insOf l v=(⟨4,0,nx a v,nx b v,0,0,[]⟩,c)∨insOf l v=(⟨5,0,0,nx a v,nx b v,0,[]⟩,c) ∨
  insOf l v=(⟨6,0,nx a v,0,0,nx b 5,nxs v d (nx c 4)⟩,d.drop (nx c 4))∨insOf l v=(⟨2,0,nx a v,nx b v,0,0,[]⟩,c)∨insOf l v=(⟨3,1+(nx a 7:Int),nx b v,nx c v,nx d v,0,[]⟩,e):=by
 refine⟨l.tail,l.tail.tail,l.tail.tail.tail,l.tail.tail.tail.tail,l.tail.tail.tail.tail.tail,?_⟩
 have h9:nx l 9 < 9:=nx_lt _ _ (by omega)
 have:nx l 9=0∨nx l 9=1∨nx l 9=2∨nx l 9=3∨nx l 9=4∨nx l 9=5∨nx l 9=6∨nx l 9=7∨nx l 9=8:=by omega
 unfold insOf
 rcases this with e|e|e|e|e|e|e|e|e<;>rw[e]<;>simp
theorem nxs_mem {v m:Nat} {l:List UInt8} {x:Int} (h:x∈nxs v l m) (hv:0 < v):0≤x∧x < v:=by
 obtain⟨j,-,rfl⟩:=List.mem_map.1 h
 have:=nx_lt (l.drop j) v hv
 omega
theorem insOf_ok (l:List UInt8) (v:Nat) (hv:0 < v):InsOk v (insOf l v).1:=by
 obtain⟨a,b,c,d,e,h⟩:=insOf_cases l v
 have ha:=nx_lt a v hv
 have hb:=nx_lt b v hv
 have hc:=nx_lt c v hv
 have hd:=nx_lt d v hv
 have h7:=nx_lt a 7 (by omega)
 have h4:=nx_lt c 4 (by omega)
 rcases h with h|h|h|h|h|h<;>rw[h]
 ·exact⟨by simp,by simp,by simp,by simp,by simp,by simp,by simp,by simp,by simp,by simp,by simp[usesL],by simp;omega⟩
 ·exact⟨by simp,by simp,by simp,by simp,by simp,by simp,by simp,by simp,by simp,by simp,by simp[usesL];omega,by simp;omega⟩
 ·exact⟨by simp,by simp,by simp,by simp,by simp,by simp,by simp,by simp,by simp,by simp,by simp[usesL];omega,by simp[givesB]⟩
 ·exact⟨by simp,by simp,by simp,by simp,by simp,by simp,by simp,by simp,by simp,by rw[nxs_len];omega,λu hu=>by
   simp[usesL] at hu
   exact nxs_mem hu hv,by simp;omega⟩
 ·exact⟨by simp,by simp,by simp,by simp,by simp,by simp,by simp,by simp,by simp,by simp,by simp[usesL];omega,by simp;omega⟩
 ·exact⟨by simp,by simp,by simp;omega,by simp,by simp,by simp,by simp,by simp,by simp,by simp,by simp[usesL];omega,by simp;omega⟩
theorem insOf_fits (l:List UInt8) (v:Nat) (hv:0 < v) (hv2:v≤40):(insOf l v).1.Fits∧(∀ n∈(insOf l v).1.args,(Lit.int .i64 n).wf=true):=by
 obtain⟨a,b,c,d,e,h⟩:=insOf_cases l v
 have ha:=nx_lt a v hv
 have hb:=nx_lt b v hv
 have hc:=nx_lt c v hv
 have hd:=nx_lt d v hv
 have h7:=nx_lt a 7 (by omega)
 have h4:=nx_lt c 4 (by omega)
 have h5:=nx_lt b 5 (by omega)
 have h2:=nx_lt b 256 (by omega)
 rcases h with h|h|h|h|h|h<;>rw[h]
 all_goals refine⟨⟨wf8.2 (by simp;try omega),wf8.2 (by simp;try omega),wf64.2 (by simp;try omega),wf64.2 (by simp;try omega),wf64.2 (by simp;try omega),wf64.2 (by simp;try omega)⟩,λn hn=>?_⟩
 all_goals first
  |(have:=nxs_mem hn hv;exact wf64.2 (by omega))
  |(simp at hn)
theorem endOf_ok (l:List UInt8) (v n:Nat) (hv:0 < v) (hn:0 < n):EndOk v n (endOf l v n).1:=by
 have h4:=nx_lt l 4 (by omega)
 have h1:=nx_lt l.tail v hv
 have h1':=nx_lt l.tail n hn
 have h2:=nx_lt l.tail.tail n hn
 have h3:=nx_lt l.tail.tail.tail n hn
 have:nx l 4=0∨nx l 4=1∨nx l 4=2∨nx l 4=3:=by omega
 unfold endOf EndOk
 rcases this with e|e|e|e<;>rw[e]<;>simp<;>omega
theorem endOf_fits (l:List UInt8) (v n:Nat) (hv:0 < v) (hv2:v≤40) (hn:0 < n) (hn2:n≤16):(endOf l v n).1.Fits:=by
 have:=endOf_ok l v n hv hn
 unfold EndOk at this
 refine⟨wf8.2 ?_,wf64.2 ?_,wf64.2 ?_,wf64.2 ?_⟩<;>omega
structure MF (w X:World) (q f p:Nat) (l:List UInt8) (pr vr:Int) (ok:Nat→Prop) (xs:List Block) (v:Value):Prop where
 bel:Bel w X
 rd:MkAt X p l
 wq:w.heap.size≤q
 qf:q < f
 fp:f < p
 pf4:p < f+4
 px:p < X.heap.size
 res:X.heap[q]?=some (.cells ([.int .i64 0,.int .i64 0,.slice none 0 0]:List Value).toArray 99 (0,0))
 fn:X.heap[f]?=some (.cells ([.int .i64 pr,.int .i64 vr,v]:List Value).toArray 99 (0,0))
 o:KRow kBlock X (p+1) 97 ok xs v
 ok_:∀ b,ok b→p < b
section
variable {w X X':World} {q f p bi:Nat} {l l':List UInt8} {pr vr:Int} {ok okI okI':Nat→Prop} {xs:List Block} {v vI vI':Value} {ys ys':List Ins}
theorem MF.only (h:MF w X q f p l pr vr ok xs v) {F:Nat→Prop} (hs:Only X X' F) (hF:∀ b,F b→p≤b) (hp:∀ b,v.ownBlock=some b→¬F b) (ho:∀ b,ok b→¬F b) (hm:MkAt X' p l'):MF w X' q f p l' pr vr ok xs v:=by
 have h1:=h.wq;have h2:=h.qf;have h3:=h.fp;have h4:=h.px
 have hb:=h.bel.size
 exact { h with
  bel:=⟨hs.os.trans h.bel.os,hs.tape.trans h.bel.tape,hs.output.trans h.bel.output,Nat.le_trans h.bel.size hs.size,λb hb'=>(hs.block b (by omega) (λe=>by have:=hF b e;omega)).trans (h.bel.block b hb')⟩
  rd:=hm
  px:=Nat.lt_of_lt_of_le h4 hs.size
  res:=hs.heap h.res (λe=>by have:=hF q e;omega)
  fn:=hs.heap h.fn (λe=>by have:=hF f e;omega)
  o:=h.o.only hs hp ho }
theorem MF.step (h:MF w X q f p l pr vr ok xs v) (hs:MkStep X X' p l'):MF w X' q f p l' pr vr ok xs v :=
 h.only (F:=λb=>b=p) (Only.grown hs.grown (λg e=>by cases e;rfl)) (λb e=>by omega) (λb hb e=>by have:=(h.o.lt_own b hb).1;omega) (λb hb e=>by have:=h.ok_ b hb;omega) hs.rd
theorem MF.belN (h:MF w X q f p l pr vr ok xs v) (hb:Bel X X'):MF w X' q f p l pr vr ok xs v :=
 h.only (F:=λ_=>False) (Only.bel hb) (λ_ e=>e.elim) (λ_ _ e=>e) (λ_ _ e=>e) (h.rd.below hb)
theorem MF.push {ok':Nat→Prop} {xs':List Block} {v':Value} (h:MF w X q f p l pr vr ok xs v) (hg:X.grownBy X' v.ownBlock) (hk:KRow kBlock X' (p+1) 97 ok' xs' v') (ho:∀ b,ok' b→p < b):MF w (X'.setCell ⟨f,2,none⟩ v') q f p l pr vr ok' xs' v':=by
 have h1:=h.wq;have h2:=h.qf;have h3:=h.fp;have h4:=h.px
 have hr:∀ k,v.ownBlock=some k→p < k:=λk hk=>(h.o.lt_own k hk).1
 have hs:Only X X' (λb=>v.ownBlock=some b):=Only.grown hg (λg e=>e)
 have hs2:Only X' (X'.setCell ⟨f,2,none⟩ v') (λb=>b=f):=Only.grown (grownBy_cell X' f 2 v') (λg e=>by cases e;rfl)
 have hfn:X'.heap[f]?=some (.cells ([.int .i64 pr,.int .i64 vr,v]:List Value).toArray 99 (0,0)):=hs.heap h.fn (λe=>by have:=hr f e;omega)
 have hb:=h.bel.size
 have hz:=hs.size
 exact {
  bel:=⟨hs2.os.trans (hs.os.trans h.bel.os),hs2.tape.trans (hs.tape.trans h.bel.tape),hs2.output.trans (hs.output.trans h.bel.output),Nat.le_trans h.bel.size (Nat.le_trans hs.size hs2.size),λb hb'=>((hs2.block b (by omega) (by omega)).trans (hs.block b (by omega) (λe=>by have:=hr b e;omega))).trans (h.bel.block b hb')⟩
  rd:=(h.rd.growN (λk hk=>hr k hk) hg).near h3 h.pf4 hs2
  wq:=h1
  qf:=h2
  fp:=h3
  pf4:=h.pf4
  px:=by have:=hs2.size;omega
  res:=hs2.heap (hs.heap h.res (λe=>by have:=hr q e;omega)) (by omega)
  fn:=by have:=set_at hfn 2 v';simpa using this
  o:=hk.only hs2 (λb hb e=>by have:=(hk.lt_own b hb).1;omega) (λb hb e=>by have:=ho b hb;omega)
  ok_:=ho }
end
def nilEnd:List Value:=[.int .u8 0,.int .i64 0,.int .i64 0,.int .i64 0]
structure MB (w X:World) (q f p bi:Nat) (l:List UInt8) (pr vr:Int) (ok:Nat→Prop) (xs:List Block) (v:Value) (okI:Nat→Prop) (ys:List Ins) (vI:Value) (es:List Value):Prop extends MF w X q f p l pr vr ok xs v where
 pb:p < bi
 bx:bi < X.heap.size
 okb:∀ b,ok b→b < bi
 ownb:∀ b,v.ownBlock=some b→b < bi
 var:X.heap[bi]?=some (.cells (vI :: es).toArray 97 (0,0))
 inn:KRow kIns X (bi+1) 91 okI ys vI
 okI_:∀ b,okI b→bi < b
section
variable {w X X':World} {q f p bi:Nat} {l l':List UInt8} {pr vr:Int} {ok okI okI':Nat→Prop} {xs:List Block} {v vI vI':Value} {ys ys':List Ins} {es:List Value}
theorem MB.step (h:MB w X q f p bi l pr vr ok xs v okI ys vI es) (hs:MkStep X X' p l'):MB w X' q f p bi l' pr vr ok xs v okI ys vI es:=by
 have h1:=h.pb;have h2:=h.bx
 have ho:Only X X' (λb=>b=p):=Only.grown hs.grown (λg e=>by cases e;rfl)
 exact { h with
  toMF:=h.toMF.step hs
  bx:=Nat.lt_of_lt_of_le h2 ho.size
  var:=ho.heap h.var (by omega)
  inn:=h.inn.only ho (λb hb e=>by have:=(h.inn.lt_own b hb).1;omega) (λb hb e=>by have:=h.okI_ b hb;omega) }
theorem MB.belN (h:MB w X q f p bi l pr vr ok xs v okI ys vI es) (hb:Bel X X'):MB w X' q f p bi l pr vr ok xs v okI ys vI es :=
 { h with
  toMF:=h.toMF.belN hb
  bx:=Nat.lt_of_lt_of_le h.bx hb.size
  var:=bHeap hb h.var
  inn:=h.inn.bel hb }
theorem MB.push (h:MB w X q f p bi l pr vr ok xs v okI ys vI es) (hg:X.grownBy X' vI.ownBlock) (hi:KRow kIns X' (bi+1) 91 okI' ys' vI') (ho:∀ b,okI' b→bi < b):MB w (X'.setCell ⟨bi,0,none⟩ vI') q f p bi l pr vr ok xs v okI' ys' vI' es:=by
 have h1:=h.pb;have h2:=h.bx;have h3:=h.px
 have hr:∀ k,vI.ownBlock=some k→bi < k:=λk hk=>(h.inn.lt_own k hk).1
 have hs:Only X X' (λb=>vI.ownBlock=some b):=Only.grown hg (λg e=>e)
 have hs2:Only X' (X'.setCell ⟨bi,0,none⟩ vI') (λb=>b=bi):=Only.grown (grownBy_cell X' bi 0 vI') (λg e=>by cases e;rfl)
 have hvar:X'.heap[bi]?=some (.cells (vI :: es).toArray 97 (0,0)):=hs.heap h.var (λe=>by have:=hr bi e;omega)
 have hz:=hs.size
 have hz2:=hs2.size
 have hm:MkAt X' p l:=h.rd.growN (λk hk=>by have:=hr k hk;omega) hg
 exact {
  toMF:=(h.toMF.only (F:=λb=>vI.ownBlock=some b) hs (λb e=>by have:=hr b e;omega) (λb hb e=>by have:=h.ownb b hb;have:=hr b e;omega) (λb hb e=>by have:=h.okb b hb;have:=hr b e;omega) hm).only (F:=λb=>b=bi) hs2 (λb e=>by omega) (λb hb e=>by have:=h.ownb b hb;omega) (λb hb e=>by have:=h.okb b hb;omega) (hm.set h1 _ _)
  pb:=h1
  bx:=by omega
  okb:=h.okb
  ownb:=h.ownb
  var:=by have:=set_at hvar 0 vI';simpa using this
  inn:=hi.only hs2 (λb hb e=>by have:=(hi.lt_own b hb).1;omega) (λb hb e=>by have:=ho b hb;omega)
  okI_:=ho }
theorem MB.put (h:MB w X q f p bi l pr vr ok xs v okI ys vI es) (k:Nat) (a:Value):MB w (X.setCell ⟨bi,k+1,none⟩ a) q f p bi l pr vr ok xs v okI ys vI (es.set k a):=by
 have h1:=h.pb
 have hs2:Only X (X.setCell ⟨bi,k+1,none⟩ a) (λb=>b=bi):=Only.grown (grownBy_cell X bi (k+1) a) (λg e=>by cases e;rfl)
 exact { h with
  toMF:=h.toMF.only (F:=λb=>b=bi) hs2 (λb e=>by omega) (λb hb e=>by have:=h.ownb b hb;omega) (λb hb e=>by have:=h.okb b hb;omega) (h.rd.set h1 _ _)
  bx:=Nat.lt_of_lt_of_le h.bx hs2.size
  var:=by have:=set_at h.var (k+1) a;simpa using this
  inn:=h.inn.only hs2 (λb hb e=>by have:=(h.inn.lt_own b hb).1;omega) (λb hb e=>by have:=h.okI_ b hb;omega) }
theorem MF.begin (h:MF w X q f p l pr vr ok xs v):MB w (X.alloc (.cells #[.slice none 0 0,.int .u8 0,.int .i64 0,.int .i64 0,.int .i64 0] 97)) q f p X.heap.size l pr vr ok xs v (λ_=>False) [] (.slice none 0 0) nilEnd :=
 {toMF:=h.belN (bA (bR _) _)
  pb:=h.px
  bx:=by simp
  okb:=λb hb=>h.o.lt b hb
  ownb:=λb hb=>(h.o.lt_own b hb).2
  var:=heap_new _ _
  inn:=KRow.none _ _ _ _ (λ_ h=>h.elim)
  okI_:=λ_ h=>h.elim }
end
theorem cloneI_any (l:List Int) (A:Option Addr) (c:Nat) (w:World) (h:Ints w A l) (hl:l.length≤100000) :
  Calls Tryz.prog 145 #[.slice A l.length c] w λe w'=>∃ v,e=.returned v∧Bel w w'∧OwnI w' w.heap.size v l:=by
 cases A with
 |none =>
  obtain rfl:l=[]:=by
   rcases l with _|⟨x,r⟩
   ·rfl
   ·obtain⟨b,off,e,_⟩:=h 0 (by simp);cases e
  refine(Tryz.slices_Clone_nil_f145 _ c w).mono ?_
  rintro e w' ⟨rfl,rfl⟩
  exact⟨_,rfl,bR _,own_none _ _ _ _ 0 rfl⟩
 |some a =>
  have he:=λ(w:World)=>Lib.run_eql_slice_nil (P:=Tryz.prog) w 29 3 (some a) l.length c 0 0 Tryz.underlying29
  have H:=Hm h
  clear h
  go_enter Tryz.func145,Tryz.ntmps145
  go_wp2_with (first
   |(at_builtin;refine app0 iInt Tryz.underlying29 rfl (.tmp 5) (.tmp 6) rfl rfl (own_empty w w.heap.size 3 1 w.heap.size rfl (Nat.le_refl _)) (show w.heap.size≤(w.alloc _).heap.size by simp) (A:=some a) (m:=l.length) (c:=c) rfl (Row.below H.o ((bA (bR w) _))) (by simp) (by omega) ?_;intro v2 w2 hb2 ho2)
   |fail)
  have HB:=Hm (bT (bA (bR w) _) hb2)
  have HO:=Hm ho2
  clear hb2 ho2
  go_wp2
  go_ret
  exact⟨_,rfl,HB.o,HO.o⟩
theorem keys_any (p o base:Nat) (ok:Nat→Prop) (keys:List Int) (vals:List (List UInt8)) (kv vv:Value) (w:World) (h:TabB w p o base ok keys vals kv vv) :
  Calls Tryz.prog 117 #[.pointer (some ⟨p,o,none⟩)] w λe w'=>∃ v,e=.returned v∧Bel w w'∧OwnI w' w.heap.size v keys:=by
 obtain⟨A,c,rfl,hr,-⟩:=own_row h.krow
 have HC:=Hm (cloneI_any keys A c w hr (by have:=h.few;omega))
 have c0:=h.c0
 have hp:=h.lt
 clear h hr
 go_enter Tryz.func117,Tryz.ntmps117
 go_wp2_with fail
 refine HC.o.mono ?_
 rintro e w1 ⟨v,rfl,hb,ho⟩
 have HF:=Hm (And.intro hb ho)
 obtain⟨A1,c1,rfl,-⟩:=own_row ho
 clear hb ho
 go_wp2
 go_ret
 exact⟨_,rfl,HF.o⟩
def recB (job:Nat) (d:List UInt8):List UInt8:=leb job++d
theorem record_any (job:Nat) (hj:job < 16) (d:List UInt8) (A:Option Addr) (c:Nat) (w:World) (hA:Bytes w A d) (hl:(recB job d).length≤65536) :
  Calls Tryz.prog 141 #[.int .i64 job,.slice A d.length c] w λe w'=>∃ v,e=.returned (.tuple #[v,.int .i64 0])∧Bel w w'∧OwnB w' w.heap.size v (layF 1 (recB job d)):=by
 have HA:=Hm hA
 have HP:=Hm (put_any none 0 [] job w (Bytes.nil _ _) (by simp) (by omega))
 have hw:IntKind.u64.wrap (job:Int)=job:=wrap_u64 job (by omega)
 have HL:=Hm hl
 have hdl:d.length≤65536:=by unfold recB at hl;rw[List.length_append] at hl;omega
 have hll:(leb job).length≤65536:=by unfold recB at hl;rw[List.length_append] at hl;omega
 have hsum:(leb job).length+d.length≤65536:=by unfold recB at hl;rw[List.length_append] at hl;exact hl
 clear hA hl
 go_enter Tryz.func141,Tryz.ntmps141
 go_wp2_with fail
 refine HP.o.mono ?_
 rintro e w1 ⟨hb1,v1,rfl,ho1⟩
 rw[List.nil_append] at ho1
 obtain⟨A1,c1,rfl,-⟩:=own_row ho1
 have HO1:=Hm ho1
 have HB1:=Hm hb1
 have HA1:=Hm (HA.o.below hb1)
 clear hb1 ho1
 go_wp2_with (first
  |(at_builtin;refine app iByte Tryz.underlying38 rfl (.tmp 8) (.tmp 9) rfl (v:=.slice A1 (leb job).length c1) rfl HO1.o (HB1.o.size) (A:=A) (m:=d.length) (c:=c) rfl HA1.o (by simp) byte_one (by omega) ?_;intro v2 w2 ho2 hg2)
  |fail)
 have HB2:Hd (Bel w w2):=⟨bG HB1.o hg2 (λk hk=>(HO1.o.lt k hk).1)⟩
 have ho2':OwnB w2 w.heap.size v2 (recB job d):=by unfold OwnB recB;rw[List.length_append,List.map_append];exact ho2
 obtain⟨A2,c2,rfl,hr2,-,hfr,-⟩:=own_row ho2'
 have HLy:=Hm (lay_any 1 A2 c2 (recB job d) w2 hr2 HL.o)
 rw[show byteV 1=.int .u8 1 from rfl] at HLy
 clear ho2 hg2 ho2' hr2 hfr
 go_wp2_with fail
 refine HLy.o.mono ?_
 rintro e w3 ⟨hb3,v3,rfl,ho3⟩
 have HF:=Hm (And.intro (bT HB2.o hb3) (own_base ho3 HB2.o.size))
 obtain⟨A3,c3,rfl,-⟩:=own_row ho3
 clear hb3 ho3
 go_wp2
 go_ret2
 exact⟨_,rfl,HF.o⟩
theorem read_ok (job:Nat) (hj:job < 16) (d:List UInt8) (A:Option Addr) (c:Nat) (w:World) (hA:Bytes w A (recB job d)) (hc:(recB job d).length≤c) (hl:(recB job d).length≤65536) :
  Calls Tryz.prog 114 #[.agg #[.int .u8 1,.slice A (recB job d).length c]] w λe w'=>∃ v,e=.returned (.tuple #[.int .i64 job,v,.bool true])∧Bel w w'∧OwnB w' w.heap.size v d:=by
 have HN:=Hm (λ(wx:World) (hb:Bel w wx)=>new_rd A c (recB job d) wx (hA.below hb) (by omega))
 have HL:=Hm hl
 have hdl:d.length≤65536:=by unfold recB at hl;rw[List.length_append] at hl;omega
 have HJ:=Hm hj
 clear hA hl hc hj
 obtain⟨n,hn⟩:∃ n,n=(recB job d).length:=⟨_,rfl⟩
 rw[←hn] at HN⊢
 clear hn
 go_enter Tryz.func114,Tryz.ntmps114
 go_wp2_with fail
 refine(HN.o _ (bA (bR w) _)).mono ?_
 rintro e w1 ⟨hb1,p,rfl,hp,hrd⟩
 have HB1:=Hm hb1
 have HBl:=Hm (below_leb p job d 16 w1 hrd HJ.o (by omega) (by have:=HL.o;unfold recB at this;omega))
 have q0:w1.cell? ⟨w.heap.size,0,none⟩=some (.int .u8 1):=bCell hb1 (by go_simp)
 have hpw:w.heap.size < p:=by simp at hp;omega
 have HQ:=Hm hpw
 clear hb1 hrd hp
 go_wp2_with fail
 refine HBl.o.mono ?_
 rintro e w2 ⟨rfl,hs2⟩
 have HG2:=Hm (grownBy_trans (grownBy_below (row:=some p) HB1.o) hs2.grown)
 replace q0:=(hs2.grown.cell (a:=⟨w.heap.size,0,none⟩) q0 (by simp;omega))
 have HR2:=Hm hs2.rd
 clear hs2 hpw
 go_wp2_with fail
 refine(left_rd p d 0 w2 HR2.o).mono ?_
 rintro e w3 ⟨rfl,rfl⟩
 go_wp2_with fail
 refine(bytes_take p d [] w3 (by simpa using HR2.o) (by simp;omega)).mono ?_
 rintro e w4 ⟨hs4,v4,rfl,ho4⟩
 have hpl:=HQ.o
 replace q0:=(hs4.grown.cell (a:=⟨w.heap.size,0,none⟩) q0 (by simp;omega))
 have HG4:=Hm (grownBy_trans HG2.o hs4.grown)
 have HR4:=Hm hs4.rd
 have HO4:=Hm ho4
 obtain⟨A4,c4,rfl,-⟩:=own_row ho4
 have hql:=World.block_lt_of_cell? w4 _ q0
 have HS3:=HG2.o.size
 clear hs4 ho4
 go_wp2_with fail
 refine(end_rd p [] 0 w4 HR4.o).mono ?_
 rintro e w5 ⟨rfl,hs5⟩
 have HO5:Hd (OwnB w5 w.heap.size (.slice A4 d.length c4) d):=⟨by
  refine World.ownsRow.kept (own_base HO4.o (by have:=HG2.o.size;simp at this;omega)) hs5.grown ?_
  have hlt4:=HO4.o.lt
  have hpr:=HR2.o.lt
  cases hv:(Value.slice A4 d.length c4).ownBlock with
  |none=>exact .inl rfl
  |some g=>exact .inr λe=>by cases e;have:=(hlt4 p hv).1;omega⟩
 have HB5:Hd (Bel w w5):=⟨by
  have:=grownBy_trans HG4.o hs5.grown
  exact bUA (bG (bR _) this (λk hk=>by cases hk;have:=HQ.o;simp;omega))⟩
 have hen:ended [] 0=0:=rfl
 clear hs5
 go_wp2
 go_ret3
 exact⟨_,rfl,HB5.o,HO5.o⟩
structure BookAt (w:World) (pb pf base:Nat) (ok:Nat→Prop) (keys:List Int) (vals:List (List UInt8)) (kv vv:Value) (size:Nat):Prop where
 head:w.heap[pb]?=some (.cells #[.pointer (some ⟨pf,0,none⟩),.int .i64 size,kv,vv] 189 (0,0))
 tab:TabB w pb 2 base ok keys vals kv vv
 pk:kv.ownBlock≠some pb
 pv:vv.ownBlock≠some pb
 ne:∀ b,kv.ownBlock=some b→vv.ownBlock≠some b
 okp:¬ok pb
 okk:∀ b,ok b→kv.ownBlock≠some b
 base_:base≤w.heap.size
section
variable {w w':World} {p o base:Nat} {ok:Nat→Prop} {keys:List Int} {vals:List (List UInt8)} {kv vv:Value} {F:Nat→Prop}
theorem TabB.only (h:TabB w p o base ok keys vals kv vv) (hs:Only w w' F) (h0:¬F p) (h1:∀ b,kv.ownBlock=some b→¬F b) (h2:∀ b,vv.ownBlock=some b→¬F b) (h3:∀ b,ok b→¬F b):TabB w' p o base ok keys vals kv vv:=by
 have e:∀ k,w'.cell? ⟨p,k,none⟩=w.cell? ⟨p,k,none⟩:=λk=>cell_of_heap (a:=⟨p,k,none⟩) (hs.block p h.lt h0)
 exact⟨(e o).trans h.c0,(e (o+1)).trans h.c1,own_only h.krow hs h1,h.vrow.only hs h2 h3,h.len,h.rise,h.few⟩
theorem BookAt.only {pb pf size:Nat} (h:BookAt w pb pf base ok keys vals kv vv size) (hs:Only w w' F) (h0:¬F pb) (h1:∀ b,kv.ownBlock=some b→¬F b) (h2:∀ b,vv.ownBlock=some b→¬F b) (h3:∀ b,ok b→¬F b):BookAt w' pb pf base ok keys vals kv vv size :=
 ⟨hs.heap h.head h0,h.tab.only hs h0 h1 h2 h3,h.pk,h.pv,h.ne,h.okp,h.okk,Nat.le_trans h.base_ hs.size⟩
theorem BookAt.bel {pb pf size:Nat} (h:BookAt w pb pf base ok keys vals kv vv size) (hb:Bel w w'):BookAt w' pb pf base ok keys vals kv vv size :=
 h.only (Only.bel (F:=λ_=>False) hb) (λh=>h) (λ_ _ h=>h) (λ_ _ h=>h) (λ_ _ h=>h)
theorem FileAt.only {pf room:Nat} {l:List UInt8} {A:Option Addr} {c:Nat} (h:FileAt w pf room l A c) (hs:Only w w' F) (h0:¬F pf) (h1:∀ a,A=some a→¬F a.block):FileAt w' pf room l A c :=
 ⟨hs.heap h.head h0,row_only h.sure hs h1,h.cap,h.apart,h.room,h.small⟩
end
theorem bget_none (pb pf base:Nat) (ok:Nat→Prop) (keys:List Int) (vals:List (List UInt8)) (kv vv:Value) (size:Nat) (k:Int) (w:World) (h:BookAt w pb pf base ok keys vals kv vv size) (hk:k∉keys) :
  Calls Tryz.prog 43 #[.pointer (some ⟨pb,0,none⟩),.int .i64 k] w λe w'=>e=.returned (.tuple #[.slice none 0 0,.bool false])∧Bel w w':=by
 have HG:=Hm (get_none pb 2 base ok keys vals kv vv k w h.tab hk)
 have hp:=hlt h.head
 clear h hk
 go_enter Tryz.func43,Tryz.ntmps43
 go_wp2_with fail
 refine HG.o.mono ?_
 rintro e w1 ⟨rfl,hb⟩
 have HB:=Hm hb
 clear hb
 go_wp2_with fail
 refine(Tryz.slices_Clone_nil_f77 0 0 w1).mono ?_
 rintro e w2 ⟨rfl,rfl⟩
 go_wp2
 go_ret2
 exact⟨rfl,HB.o⟩
theorem bget_some (pb pf base:Nat) (ok:Nat→Prop) (keys:List Int) (vals:List (List UInt8)) (kv vv:Value) (size:Nat) (i:Nat) (hi:i < keys.length) (hv:i < vals.length) (hvl:vals[i].length≤10000000) (w:World) (h:BookAt w pb pf base ok keys vals kv vv size) :
  Calls Tryz.prog 43 #[.pointer (some ⟨pb,0,none⟩),.int .i64 keys[i]] w λe w'=>∃ v,e=.returned (.tuple #[v,.bool true])∧Bel w w'∧OwnB w' w.heap.size v vals[i]:=by
 have HG:=Hm (get_some pb 2 base ok keys vals kv vv i hi hv w h.tab)
 have HL:=Hm hvl
 have hp:=hlt h.head
 clear h hvl
 generalize keys[i]=k at *
 generalize vals[i]=d at *
 clear hi hv
 go_enter Tryz.func43,Tryz.ntmps43
 go_wp2_with fail
 refine HG.o.mono ?_
 rintro e w1 ⟨hb,v,rfl,hs⟩
 obtain⟨A,c,rfl,hcap,hby,-⟩:=sk_bytes hs
 have HB:=Hm hb
 have HC:=Hm (cloneB_any d A c w1 hby HL.o)
 clear hb hs hby
 go_wp2_with fail
 refine HC.o.mono ?_
 rintro e w2 ⟨v,rfl,hb2,ho2⟩
 have HF:=Hm (And.intro (bT HB.o hb2) (own_base ho2 HB.o.size))
 obtain⟨A2,c2,rfl,-⟩:=own_row ho2
 clear hb2 ho2
 go_wp2
 go_ret2
 exact⟨_,rfl,HF.o⟩
theorem bjobs_any (pb pf base:Nat) (ok:Nat→Prop) (keys:List Int) (vals:List (List UInt8)) (kv vv:Value) (size:Nat) (w:World) (h:BookAt w pb pf base ok keys vals kv vv size) :
  Calls Tryz.prog 75 #[.pointer (some ⟨pb,0,none⟩)] w λe w'=>∃ v,e=.returned v∧Bel w w'∧OwnI w' w.heap.size v keys:=by
 have HK:=Hm (keys_any pb 2 base ok keys vals kv vv w h.tab)
 have hp:=hlt h.head
 clear h
 go_enter Tryz.func75,Tryz.ntmps75
 go_wp2_with fail
 refine HK.o.mono ?_
 rintro e w1 ⟨v,rfl,hb,ho⟩
 have HF:=Hm (And.intro hb ho)
 obtain⟨A1,c1,rfl,-⟩:=own_row ho
 clear hb ho
 go_wp2
 go_ret
 exact⟨_,rfl,HF.o⟩
theorem lay_full (pb pf base room:Nat) (ok:Nat→Prop) (keys:List Int) (vals:List (List UInt8)) (kv vv:Value) (l:List UInt8) (A:Option Addr) (c:Nat) (job:Nat) (hj:job < 16) (hk:(job:Int)∉keys) (d:List UInt8) (Ad:Option Addr) (cd:Nat) (w:World) (h:BookAt w pb pf base ok keys vals kv vv l.length) (hf:FileAt w pf room l A c) (hd:Bytes w Ad d) (hl:(recB job d).length≤65536) (hr:room < l.length+(layF 1 (recB job d)).length) :
  Calls Tryz.prog 109 #[.pointer (some ⟨pb,0,none⟩),.int .i64 job,.slice Ad d.length cd] w λe w'=>e=.returned (.int .i64 50)∧Bel w w':=by
 have HG:=Hm (get_none pb 2 base ok keys vals kv vv job w h.tab hk)
 have H:=Hm h
 have HF:=Hm hf
 have HRc:=Hm (λ(wx:World) (hb:Bel w wx)=>record_any job hj d Ad cd wx (hd.below hb) hl)
 have HJ:=Hm (And.intro hr hl)
 have hp:=hlt h.head
 clear h hf hd hl hr
 go_enter Tryz.func109,Tryz.ntmps109
 go_wp2_with fail
 refine HG.o.mono ?_
 rintro e w1 ⟨rfl,hb1⟩
 have HB1:=Hm hb1
 clear hb1
 go_wp2_with fail
 refine(HRc.o _ HB1.o).mono ?_
 rintro e w2 ⟨v2,rfl,hb2,ho2⟩
 have HB2:=Hm (bT HB1.o hb2)
 have h2:=H.o.bel HB2.o
 have p0:w2.cell? ⟨pb,0,none⟩=some (.pointer (some ⟨pf,0,none⟩)):=hcell h2.head 0
 have p1:w2.cell? ⟨pb,1,none⟩=some (.int .i64 l.length):=hcell h2.head 1
 have hp2:=hlt h2.head
 obtain⟨A2,c2,rfl,-⟩:=own_row ho2
 have HW:=Hm (λ(wx:World) (hb:Bel w2 wx)=>write_full pf room l A c wx (HF.o.bel (bT HB2.o hb)) A2 (layF 1 (recB job d)).length c2 (by have:=HJ.o.2;unfold layF;simp only[List.length_append,List.length_cons,four_len];have:=leb_len3 HJ.o.2;omega) HJ.o.1)
 clear hb2 ho2 h2
 generalize (layF 1 (recB job d)).length=n at *
 go_wp2_with fail
 refine rgn [.rd 0,.rd 1,.rd 2,.rd 3,.rd 4,.rd 5,.rd 6,.rd 7,.rd 8,.hv 9 [],.rd 10] (n:=47) rfl ?_
 iterate 9 (refine line_rd rfl (λK hK=>?_);go_simp;refine hK _ ?_;clear hK K)
 refine line_hv rfl ?_
 go_wp2_with fail
 refine(HW.o _ (bD (bR w2))).mono ?_
 rintro e w3 ⟨rfl,hb3⟩
 have HB3:=Hm (bT HB2.o (bU hb3))
 clear hb3
 go_wp2_with fail
 refine⟨?_,?_⟩
 ·exact trivial
 iterate 1 (refine line_rd rfl (λK hK=>?_);go_simp;refine hK _ ?_;clear hK K)
 unfold Line
 go_wp2
 go_ret
 exact⟨rfl,HB3.o⟩
theorem lay_ok (pb pf base room:Nat) (ok:Nat→Prop) (keys:List Int) (vals:List (List UInt8)) (kv vv:Value) (l:List UInt8) (A:Option Addr) (c:Nat) (job:Nat) (hj:job < 16) (hk:(job:Int)∉keys) (d:List UInt8) (Ad:Option Addr) (cd:Nat) (w:World) (h:BookAt w pb pf base ok keys vals kv vv l.length) (hf:FileAt w pf room l A c) (hd:Bytes w Ad d) (hl:(recB job d).length≤65536) (hr:l.length+(layF 1 (recB job d)).length≤room) :
  Calls Tryz.prog 109 #[.pointer (some ⟨pb,0,none⟩),.int .i64 job,.slice Ad d.length cd] w λe w'=>e=.returned (.int .i64 0)∧w.grownBy w' (some pf)∧∃ gq cq B cb,FileQ w' pf room l A c (layF 1 (recB job d)) gq cq B cb:=by
 have HG:=Hm (get_none pb 2 base ok keys vals kv vv job w h.tab hk)
 have H:=Hm h
 have HF:=Hm hf
 have HRc:=Hm (λ(wx:World) (hb:Bel w wx)=>record_any job hj d Ad cd wx (hd.below hb) hl)
 have HJ:=Hm (And.intro hr hl)
 have hp:=hlt h.head
 clear h hf hd hl hr
 go_enter Tryz.func109,Tryz.ntmps109
 go_wp2_with fail
 refine HG.o.mono ?_
 rintro e w1 ⟨rfl,hb1⟩
 have HB1:=Hm hb1
 clear hb1
 go_wp2_with fail
 refine(HRc.o _ HB1.o).mono ?_
 rintro e w2 ⟨v2,rfl,hb2,ho2⟩
 have HB2:=Hm (bT HB1.o hb2)
 have h2:=H.o.bel HB2.o
 have p0:w2.cell? ⟨pb,0,none⟩=some (.pointer (some ⟨pf,0,none⟩)):=hcell h2.head 0
 have p1:w2.cell? ⟨pb,1,none⟩=some (.int .i64 l.length):=hcell h2.head 1
 have hp2:=hlt h2.head
 obtain⟨A2,c2,rfl,hr2,-⟩:=own_row ho2
 have HW:=Hm (λ(wx:World) (hb:Bel w2 wx)=>write_ok pf room l A c wx (HF.o.bel (bT HB2.o hb)) (layF 1 (recB job d)) A2 c2 (Bytes.below hr2 hb) (by have:=layF_pos 1 (recB job d);omega) HJ.o.1)
 clear hb2 ho2 h2 hr2
 obtain⟨D,hD⟩:∃ D,D=layF 1 (recB job d):=⟨_,rfl⟩
 rw[←hD] at HW⊢
 have HDD:=Hm hD
 clear hD
 go_wp2_with fail
 refine rgn [.rd 0,.rd 1,.rd 2,.rd 3,.rd 4,.rd 5,.rd 6,.rd 7,.rd 8,.hv 9 [],.rd 10] (n:=47) rfl ?_
 iterate 9 (refine line_rd rfl (λK hK=>?_);go_simp;refine hK _ ?_;clear hK K)
 refine line_hv rfl ?_
 go_wp2_with fail
 refine(HW.o _ (bD (bR w2))).mono ?_
 rintro e w3 ⟨rfl,hg3,hq⟩
 have HB3:=Hm (And.intro (grownBy_trans (grownBy_below (row:=some pf) (bD HB2.o)) hg3) hq)
 clear hg3 hq
 go_wp2_with fail
 refine⟨?_,?_⟩
 ·exact trivial
 iterate 1 (refine line_rd rfl (λK hK=>?_);go_simp;refine hK _ ?_;clear hK K)
 unfold Line
 go_wp2
 go_ret
 rw[←HDD.o]
 exact⟨rfl,HB3.o⟩
end Go.Proofs.YtjkgligohegaeaaGreatDoor
