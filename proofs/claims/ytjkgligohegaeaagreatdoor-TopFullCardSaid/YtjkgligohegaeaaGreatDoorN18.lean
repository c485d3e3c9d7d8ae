/- Lemmas of the row. -/
import Derived.Test.YtjkgligohegaeaaGreatDoorN17
set_option linter.all false
set_option maxRecDepth 20000
set_option maxHeartbeats 12800000
namespace Go.Proofs.YtjkgligohegaeaaGreatDoor
open Go.RowKit
def MadePost (w:World) (F:Func) (e:Ending) (w':World):Prop:=Bel w w'∧∃ v ok,e=.returned (.agg #[.int .i64 F.params,.int .i64 F.vregs,v])∧KRow kBlock w' w.heap.size 97 ok F.blocks v∧∀ b,ok b→w.heap.size≤b
def OutRel (w:World) (q f p:Nat) (l:List UInt8) (V N P:Nat) (i:Value) (wr:World):Prop:=∃ (j:Nat) (ok:Nat→Prop) (v:Value),j≤N∧i=.int .i64 j∧MF w wr q f p (blockSeq l V N j).2 P V ok (blockSeq l V N j).1 v
theorem made_any (pa vr bl:Nat) (hpa:pa < 256) (hvr:vr < 256) (hbl:bl < 256) (l:List UInt8) (hl:l.length≤200) (A:Option Addr) (ca:Nat) (hc:l.length≤ca) (w:World) (hA:Bytes w A l) :
  Calls Tryz.prog 47 #[.agg #[.int .u8 pa,.int .u8 vr,.int .u8 bl,.slice A l.length ca]] w (MadePost w (madeOf pa vr bl l)):=by
 have HA:=Hm (And.intro hA (And.intro hl hc))
 have hp5:pa % 5 < 5:=Nat.mod_lt _ (by omega)
 have hv28:vr % 28 < 28:=Nat.mod_lt _ (by omega)
 have hn7:bl % 7 < 7:=Nat.mod_lt _ (by omega)
 have m1:((pa:Int) % 5)=((pa % 5:Nat):Int):=by omega
 have m2:((vr:Int) % 28)=((vr % 28:Nat):Int):=by omega
 have m3:((bl:Int) % 7)=((bl % 7:Nat):Int):=by omega
 have HM:=Hm (And.intro m1 (And.intro m2 m3))
 clear hA hl hc m1 m2 m3
 generalize hn:l.length=n at *
 have HN:=Hm hn
 clear hn
 go_enter Tryz.func47,Tryz.ntmps47
 go_wp2_with fail
 rw[HM.o.1,HM.o.2.1,HM.o.2.2]
 have hV:(max ((pa % 5:Nat):Int) 1+((vr % 28:Nat):Int))=((vregsOf pa vr:Nat):Int):=by unfold vregsOf;omega
 have hNb:(1+((bl % 7:Nat):Int))=((1+bl % 7:Nat):Int):=by omega
 rw[hV,hNb]
 have HQ:Hd (madeOf pa vr bl l=⟨(pa % 5:Nat),vregsOf pa vr,(blockSeq l (vregsOf pa vr) (1+bl % 7) (1+bl % 7)).1⟩):=⟨rfl⟩
 have hV1:0 < vregsOf pa vr∧vregsOf pa vr≤40:=by unfold vregsOf;omega
 have hN1:0 < 1+bl % 7∧1+bl % 7≤7:=by omega
 obtain⟨W0,hW0⟩:∃ W0,W0=(((w.alloc (.cells #[.int .u8 pa,.int .u8 vr,.int .u8 bl,.slice A n ca] 130)).alloc (.cells #[.int .i64 0,.int .i64 0,.slice none 0 0] 99)).alloc (.cells #[.int .i64 (pa % 5:Nat),.int .i64 (vregsOf pa vr),.slice none 0 0] 99)).alloc (.cells #[.slice A n ca] 198):=⟨_,rfl⟩
 rw[←hW0]
 have HF:Hd (MF w W0 (w.heap.size+1) (w.heap.size+1+1) (w.heap.size+1+1+1) l (pa % 5:Nat) (vregsOf pa vr) (λ_=>False) [] (.slice none 0 0)):=⟨by
  subst hW0
  exact {
   bel:=bA (bA (bA (bA (bR _) _) _) _) _
   rd:=⟨A,ca,by rw[HN.o];exact hnew (by simp),HA.o.1.below (bA (bA (bA (bA (bR _) _) _) _) _),λh0 a ha=>by have:=row_lt HA.o.1 (by simpa using h0) a ha;omega,by rw[HN.o];exact HA.o.2.2,by rw[HN.o];exact HA.o.2.1⟩
   wq:=by omega
   qf:=by omega
   fp:=by omega
   pf4:=by omega
   px:=by simp
   res:=bHeap (bA (bA (bR _) _) _) (hnew (by simp))
   fn:=bHeap (bA (bR _) _) (hnew (by simp))
   o:=KRow.none _ _ _ _ (λ_ h=>h.elim)
   ok_:=λ_ h=>h.elim }⟩
 clear hV hNb hW0 HM
 generalize w.heap.size+1+1+1=p at *
 generalize w.heap.size+1+1=f at *
 generalize w.heap.size+1=q at *
 generalize vregsOf pa vr=V at *
 generalize 1+bl % 7=N at *
 generalize pa % 5=P at *
 obtain⟨hV1,hV2⟩:=hV1
 obtain⟨hN1,hN2⟩:=hN1
 go_loopw [31] (λi wr=>OutRel w q f p l V N P i wr) (λi _=>N-(intOf i).toNat)
 case atStart=>exact⟨0,_,_,Nat.zero_le _,rfl,HF.o⟩
 case round =>
  obtain⟨j,ok,v,hj,rfl,hr⟩:=hrel
  have HR:=Hm hr
  clear hr HF
  have hlj:=blockSeq_len l V N j
  by_cases hlt:j < N
  ·have HSN:Hd (blockSeq l V N (j+1)=((blockSeq l V N j).1++[(blockOf (blockSeq l V N j).2 V N).1],(blockOf (blockSeq l V N j).2 V N).2)):=⟨rfl⟩
   generalize (blockSeq l V N j).1=xs at *
   generalize (blockSeq l V N j).2=L at *
   have HBg:=Hm HR.o.begin
   have hf1:wr.cell? ⟨f,1,none⟩=some (.int .i64 V):=by rw[cell_at HR.o.fn];rfl
   go_wp2_with fail
   obtain⟨bi,hbi⟩:∃ bi,bi=wr.heap.size:=⟨_,rfl⟩
   rw[←hbi] at HBg⊢
   refine(mnext_any p L 9 (by omega) (by omega) _ HBg.o.rd).mono ?_
   rintro e X1 ⟨rfl,hs⟩
   have HR1:=Hm (HBg.o.step hs)
   have HBO:Hd (blockOf L V N=(⟨(insSeq L.tail V (nx L 9)).1,(endOf (insSeq L.tail V (nx L 9)).2 V N).1⟩,(endOf (insSeq L.tail V (nx L 9)).2 V N).2)):=⟨rfl⟩
   have hm9:=nx_lt L 9 (by omega)
   generalize nx L 9=m at *
   generalize L.tail=L1 at *
   clear hs HBg HR hbi hf1
   go_wp2_with fail
   obtain⟨wo,rfl⟩:∃ wo:World,wo=wr:=⟨_,rfl⟩
   go_loopw [35] (λi wr=>∃ (k:Nat) (okI:Nat→Prop) (vI:Value),k≤m∧i=.int .i64 k∧MB w wr q f p bi (insSeq L1 V k).2 P V ok xs v okI (insSeq L1 V k).1 vI nilEnd) (λi _=>m-(intOf i).toNat)
   case atStart=>exact⟨0,_,_,Nat.zero_le _,rfl,HR1.o⟩
   case round =>
    obtain⟨k,okI,vI,hk,rfl,hr⟩:=hrel
    have HR:=Hm hr
    clear hr HR1
    obtain⟨A6,c6,rfl,-,-,-⟩:=HR.o.inn.form
    have hlk:=insSeq_len L1 V k
    rw[hlk] at HR
    by_cases hkt:k < m
    ·have HSI:Hd (insSeq L1 V (k+1)=((insSeq L1 V k).1++[(insOf (insSeq L1 V k).2 V).1],(insOf (insSeq L1 V k).2 V).2)):=⟨rfl⟩
     generalize (insSeq L1 V k).1=ys at *
     generalize (insSeq L1 V k).2=L2 at *
     have HIns:=Hm (λW hW=>mins_any p L2 V hV1 hV2 W hW)
     have hft:=insOf_fits L2 V hV1 hV2
     have HY:=Hm hft
     have v0:wr.cell? ⟨bi,0,none⟩=some (.slice A6 k c6):=by rw[cell_at HR.o.var];rfl
     have f1:wr.cell? ⟨f,1,none⟩=some (.int .i64 V):=by rw[cell_at HR.o.fn];rfl
     clear hft
     go_wp2_with fail
     refine rgn [.rd 0,.rd 1,.rd 2,.rd 3,.rd 4,.hv 5 [0,1],.hv 6 [0,1],.hv 7 [],.rd 8,.hv 9 []] (n:=85) rfl ?_
     iterate 5 (refine line_rd rfl (λK hK=>?_);go_simp;refine hK _ ?_;clear hK K)
     refine line_hv rfl ?_
     go_wp2_with fail
     have HRd0:=Hm (HR.o.belN (bD (bR _)))
     refine(HIns.o _ HRd0.o.rd).mono ?_
     unfold MInsPost
     rintro e X2 ⟨hs,va,rfl,hoa⟩
     have HR2:=Hm (HRd0.o.step hs)
     have hz2:bi < wr.heap.size:=HR.o.bx
     generalize (insOf L2 V).1=y at *
     generalize (insOf L2 V).2=L3 at *
     have HOa:=Hm hoa
     obtain⟨Aa,ca',rfl,-,hla,-,-,-⟩:=own_row hoa
     have hzz:wr.heap.size≤X2.heap.size:=hs.grown.size
     have v1:X2.cell? ⟨bi,0,none⟩=some (.slice A6 k c6):=by rw[cell_at HR2.o.var];rfl
     have hbx:bi < X2.heap.size:=by omega
     have hK2:KRow kIns X2 (bi+1) 91 (λb=>okI b∨some b=(Value.slice Aa y.args.length ca').ownBlock) ys (.slice A6 k c6):=by
      refine HR2.o.inn.more (λb hb=>.inl hb) ?_ ?_
      ·rintro b (hb|hb)
       ·exact HR2.o.inn.apart b hb
       ·intro e
        have h1:=(HR.o.inn.lt_own b e.symm).2
        have h2:wr.heap.size≤b:=(HOa.o.lt b hb.symm).1
        omega
      ·rintro b (hb|hb)
       ·exact HR2.o.inn.lt b hb
       ·exact(HOa.o.lt b hb.symm).2
     have hcell:kIns.K X2 (λb=>okI b∨some b=(Value.slice Aa y.args.length ca').ownBlock) y [.int .u8 y.kind,.int .u8 y.op,.int .i64 y.d,.int .i64 y.a,.int .i64 y.b,.int .i64 y.n,.slice Aa y.args.length ca'] :=
      kIns_mk HY.o.1 ((ski_own HOa.o HY.o.2).stay (Stays.weaken λb hb=>.inr hb))
     have HK2:=Hm (And.intro hK2 hcell)
     have hokI:∀ b,(okI b∨some b=(Value.slice Aa y.args.length ca').ownBlock)→bi < b:=by
      rintro b (hb|hb)
      ·exact HR2.o.okI_ b hb
      ·have h2:wr.heap.size≤b:=(HOa.o.lt b hb.symm).1
       omega
     have HOkI:=Hm hokI
     have hyk:ys.length≤9:=by omega
     clear hs hoa hla hK2 hcell hokI v0 hzz hz2
     unfold insV
     go_wp2_with fail
     refine⟨?_,?_⟩
     ·simp only[Again,slotOf]
      go_simp
     refine line_hv rfl ?_
     go_wp2_with fail
     refine⟨?_,?_⟩
     ·simp only[Again,slotOf]
      go_simp
     refine line_hv rfl ?_
     refine appK iIns Tryz.underlying92 rfl (.tmp 38) (.tmp 43) rfl rfl (HK2.o.1.bel (bA (bR _) (.cells #[.int .u8 y.kind,.int .u8 y.op,.int .i64 y.d,.int .i64 y.a,.int .i64 y.b,.int .i64 y.n,.slice Aa y.args.length ca'] 91))) (show bi+1≤(X2.alloc _).heap.size by simp;omega) (q:=X2.heap.size) rfl (row_new _ _ _ _) (kIns.stay (Stays.below (bA (bR _) _)) HK2.o.2) (by omega) ?_
     intro v5 X5 hk5 hg5 hw5
     have hr5:=(HR2.o.belN (bA (bR _) (.cells #[.int .u8 y.kind,.int .u8 y.op,.int .i64 y.d,.int .i64 y.a,.int .i64 y.b,.int .i64 y.n,.slice Aa y.args.length ca'] 91))).push hg5 hk5 HOkI.o
     have hvar5:X5.heap[bi]?=some (.cells (.slice A6 k c6 :: nilEnd).toArray 97 (0,0)):=by
      rw[hg5.block bi (by simp;omega) (λe=>by have:=(HR2.o.inn.lt_own bi e.symm).1;omega)]
      exact bHeap (bA (bR _) _) HR2.o.var
     obtain⟨A7,c7,rfl,-,-,-⟩:=hk5.form
     have hlk1:(ys++[y]).length=k+1:=by simp;omega
     rw[hlk1] at hr5⊢
     have v0:X5.cell? ⟨bi,0,none⟩=some (.slice A6 k c6):=by rw[cell_at hvar5];rfl
     have f0:=free_at hvar5 0
     have HR5:=Hm hr5
     clear hk5 hg5 hw5 hr5 hvar5 hlk1 v1 HR2 HK2 HR HRd0
     go_wp2_with fail
     refine⟨?_,?_⟩
     ·exact trivial
     refine line_rd rfl (λK hK=>?_);go_simp;refine hK _ ?_;clear hK K
     refine line_hv rfl ?_
     go_wp2_with fail
     refine⟨?_,?_⟩
     ·exact trivial
     unfold Line
     go_wp2_with fail
     go_roundw
     case rel=>exact⟨k+1,_,_,by omega,by go_num,by rw[HSI.o];exact HR5.o⟩
     case measure=>simp[intOf];omega
    ·obtain rfl:k=m:=by omega
     generalize (insSeq L1 V k).1=ys at *
     generalize (insSeq L1 V k).2=L2 at *
     have hx4:=nx_lt L2 4 (by omega)
     have hcs:nx L2 4=0∨nx L2 4=1∨nx L2 4=2∨nx L2 4=3:=by omega
     clear hx4
     rcases hcs with hE4|hE4|hE4|hE4
     ·have HE:Hd (endOf L2 V N=(⟨3,((nx L2.tail V:Nat):Int),0,0⟩,L2.tail.tail)):=⟨by unfold endOf;rw[hE4];rfl⟩
      have f1:wr.cell? ⟨f,1,none⟩=some (.int .i64 V):=by rw[cell_at HR.o.fn];rfl
      go_wp2_with fail
      refine(mnext_any p (L2) 4 (by omega) (by omega) _ HR.o.rd).mono ?_
      rintro e X1 ⟨rfl,hs⟩
      have HR':=Hm (HR.o.step hs)
      clear hs HR
      have HR:=HR'
      clear HR'
      rw[hE4]
      have f1:X1.cell? ⟨f,1,none⟩=some (.int .i64 V):=by rw[cell_at HR.o.fn];rfl
      go_wp2_with fail
      refine(mnext_any p (L2.tail) V (by omega) (by omega) _ HR.o.rd).mono ?_
      rintro e X1 ⟨rfl,hs⟩
      have HR':=Hm (HR.o.step hs)
      clear hs HR
      have HR:=HR'
      clear HR'
      have f1:X1.cell? ⟨f,1,none⟩=some (.int .i64 V):=by rw[cell_at HR.o.fn];rfl
      have b1:X1.cell? ⟨bi,1,none⟩=some (.int .u8 0):=by rw[cell_at HR.o.var];rfl
      have g1:=free_at HR.o.var 1
      have b2:X1.cell? ⟨bi,2,none⟩=some (.int .i64 0):=by rw[cell_at HR.o.var];rfl
      have g2:=free_at HR.o.var 2
      have b3:X1.cell? ⟨bi,3,none⟩=some (.int .i64 0):=by rw[cell_at HR.o.var];rfl
      have g3:=free_at HR.o.var 3
      have b4:X1.cell? ⟨bi,4,none⟩=some (.int .i64 0):=by rw[cell_at HR.o.var];rfl
      have g4:=free_at HR.o.var 4
      have b0:X1.cell? ⟨bi,0,none⟩=some (.slice A6 k c6):=by rw[cell_at HR.o.var];rfl
      have f2:X1.cell? ⟨f,2,none⟩=some (v):=by rw[cell_at HR.o.fn];rfl
      have hfb:f < bi:=by have:=HR.o.pb;have:=HR.o.fp;omega
      have hfz:=World.block_lt_of_cell? _ _ f2
      have hbx:=HR.o.bx
      have HR2:=Hm ((((HR.o.put 0 (.int .u8 3)).put 1 (.int .i64 ((nx L2.tail V:Nat):Int))).put 2 (.int .i64 0)).put 3 (.int .i64 0))
      simp only[nilEnd,List.set_cons_zero,List.set_cons_succ,Nat.zero_add,Nat.reduceAdd] at HR2
      have HEnd:=Hm (endOf_fits L2 V N hV1 hV2 hN1 (by omega))
      rw[HE.o] at HEnd HBO
      dsimp only at HEnd HBO
      obtain⟨L9,hL9⟩:∃ L9,L9=L2.tail.tail:=⟨_,rfl⟩
      rw[←hL9] at HR2 HBO
      clear HR hL9
      obtain⟨ea,hea⟩:∃ ea,ea=nx L2.tail V:=⟨_,rfl⟩
      rw[←hea] at HR2 HEnd HBO⊢
      clear hea
      clear HE hE4
      obtain⟨X9,hX9⟩:∃ X9,X9=(((X1.setCell ⟨bi,1,none⟩ (.int .u8 3)).setCell ⟨bi,2,none⟩ (.int .i64 ea)).setCell ⟨bi,3,none⟩ (.int .i64 0)).setCell ⟨bi,4,none⟩ (.int .i64 0):=⟨_,rfl⟩
      rw[←hX9] at HR2
      have hokN:∀ b,(ok b∨okI b∨some b=(Value.slice A6 k c6).ownBlock)→p < b∧b < X9.heap.size∧some b≠v.ownBlock:=by
       have h1:=HR2.o.pb
       rintro b (hb|hb|hb)
       ·exact⟨HR2.o.ok_ b hb,HR2.o.o.lt b hb,HR2.o.o.apart b hb⟩
       ·have h2:=HR2.o.okI_ b hb
        exact⟨by omega,HR2.o.inn.lt b hb,λe=>by have:=HR2.o.ownb b e.symm;omega⟩
       ·have h2:=HR2.o.inn.lt_own b hb.symm
        exact⟨by omega,h2.2,λe=>by have:=HR2.o.ownb b e.symm;omega⟩
      have HOkN:=Hm hokN
      have HK:=Hm (HR2.o.o.more (ok':=λb=>ok b∨okI b∨some b=(Value.slice A6 k c6).ownBlock) (λb hb=>.inl hb) (λb hb=>(hokN b hb).2.2) (λb hb=>(hokN b hb).2.1))
      have HY:Hd (kBlock.K X9 (λb=>ok b∨okI b∨some b=(Value.slice A6 k c6).ownBlock) ⟨ys,⟨3,ea,0,0⟩⟩ [.slice A6 k c6,.int .u8 3,.int .i64 ea,.int .i64 0,.int .i64 0]) :=
       ⟨by
        have:=kBlock_mk (b:=⟨ys,⟨3,ea,0,0⟩⟩) HEnd.o (HR2.o.inn.sk.stay (Stays.weaken (ok':=λb=>ok b∨okI b∨some b=(Value.slice A6 k c6).ownBlock) λb hb=>.inr hb))
        exact this⟩
      clear hokN
      subst hX9
      have HR:=HR2
      clear HR2
      go_wp2_with (
       at_builtin
       refine appK iBlock Tryz.underlying57 rfl (.tmp 78) (.tmp 80) rfl rfl (HK.o.bel (bA (bR _) (.cells #[.slice A6 k c6,.int .u8 3,.int .i64 ea,.int .i64 0,.int .i64 0] 97))) (show p+1≤(World.alloc _ _).heap.size by have:=HR.o.px;simp only[World.size_alloc];omega) (q:=X1.heap.size) rfl (by simpa using row_new ((((X1.setCell ⟨bi,1,none⟩ (.int .u8 3)).setCell ⟨bi,2,none⟩ (.int .i64 ea)).setCell ⟨bi,3,none⟩ (.int .i64 0)).setCell ⟨bi,4,none⟩ (.int .i64 0)) [.slice A6 k c6,.int .u8 3,.int .i64 ea,.int .i64 0,.int .i64 0] 97 (0,0)) (kBlock.stay (Stays.below (bA (bR _) _)) HY.o) (by omega) ?_
       intro v5 X5 hk5 hg5 hw5
       have HFin:=Hm ((HR.o.toMF.belN (bA (bR _) (.cells #[.slice A6 k c6,.int .u8 3,.int .i64 ea,.int .i64 0,.int .i64 0] 97))).push hg5 hk5 (λb hb=>(HOkN.o b hb).1))
       have hfn5:X5.heap[f]?=some (.cells ([.int .i64 P,.int .i64 V,v]:List Value).toArray 99 (0,0)):=by
        rw[hg5.block f (by have:=HR.o.px;have:=HR.o.fp;simp;omega) (λe=>by have:=(HR.o.o.lt_own f e.symm).1;have:=HR.o.fp;omega)]
        exact bHeap (bA (bR _) _) HR.o.fn
       obtain⟨A7,c7,rfl,-,-,-⟩:=hk5.form
       have hl9:(xs++[(⟨ys,⟨3,ea,0,0⟩⟩:Block)]).length=j+1:=by simp[hlj]
       rw[hl9] at HFin⊢
       have u2:X5.cell? ⟨f,2,none⟩=some (v):=by rw[cell_at hfn5];rfl
       have uf:=free_at hfn5 2
       have uz:=World.block_lt_of_cell? _ _ u2
       clear HR HK HY hk5 hg5 hw5 hfn5 b0 b1 b2 b3 b4 g1 g2 g3 g4 f1 f2)
      go_roundw
      case rel=>exact⟨j+1,(λb=>ok b∨okI b∨some b=(Value.slice A6 k c6).ownBlock),.slice A7 (j+1) c7,by omega,by go_num,by rw[HSN.o,HBO.o];exact HFin.o⟩
      case measure=>simp[intOf];omega
     ·have HE:Hd (endOf L2 V N=(⟨1,0,((nx L2.tail N:Nat):Int),0⟩,L2.tail.tail)):=⟨by unfold endOf;rw[hE4];rfl⟩
      have f1:wr.cell? ⟨f,1,none⟩=some (.int .i64 V):=by rw[cell_at HR.o.fn];rfl
      go_wp2_with fail
      refine(mnext_any p (L2) 4 (by omega) (by omega) _ HR.o.rd).mono ?_
      rintro e X1 ⟨rfl,hs⟩
      have HR':=Hm (HR.o.step hs)
      clear hs HR
      have HR:=HR'
      clear HR'
      rw[hE4]
      have f1:X1.cell? ⟨f,1,none⟩=some (.int .i64 V):=by rw[cell_at HR.o.fn];rfl
      go_wp2_with fail
      refine(mnext_any p (L2.tail) N (by omega) (by omega) _ HR.o.rd).mono ?_
      rintro e X1 ⟨rfl,hs⟩
      have HR':=Hm (HR.o.step hs)
      clear hs HR
      have HR:=HR'
      clear HR'
      have f1:X1.cell? ⟨f,1,none⟩=some (.int .i64 V):=by rw[cell_at HR.o.fn];rfl
      have b1:X1.cell? ⟨bi,1,none⟩=some (.int .u8 0):=by rw[cell_at HR.o.var];rfl
      have g1:=free_at HR.o.var 1
      have b2:X1.cell? ⟨bi,2,none⟩=some (.int .i64 0):=by rw[cell_at HR.o.var];rfl
      have g2:=free_at HR.o.var 2
      have b3:X1.cell? ⟨bi,3,none⟩=some (.int .i64 0):=by rw[cell_at HR.o.var];rfl
      have g3:=free_at HR.o.var 3
      have b4:X1.cell? ⟨bi,4,none⟩=some (.int .i64 0):=by rw[cell_at HR.o.var];rfl
      have g4:=free_at HR.o.var 4
      have b0:X1.cell? ⟨bi,0,none⟩=some (.slice A6 k c6):=by rw[cell_at HR.o.var];rfl
      have f2:X1.cell? ⟨f,2,none⟩=some (v):=by rw[cell_at HR.o.fn];rfl
      have hfb:f < bi:=by have:=HR.o.pb;have:=HR.o.fp;omega
      have hfz:=World.block_lt_of_cell? _ _ f2
      have hbx:=HR.o.bx
      have HR2:=Hm ((((HR.o.put 0 (.int .u8 1)).put 1 (.int .i64 0)).put 2 (.int .i64 ((nx L2.tail N:Nat):Int))).put 3 (.int .i64 0))
      simp only[nilEnd,List.set_cons_zero,List.set_cons_succ,Nat.zero_add,Nat.reduceAdd] at HR2
      have HEnd:=Hm (endOf_fits L2 V N hV1 hV2 hN1 (by omega))
      rw[HE.o] at HEnd HBO
      dsimp only at HEnd HBO
      obtain⟨L9,hL9⟩:∃ L9,L9=L2.tail.tail:=⟨_,rfl⟩
      rw[←hL9] at HR2 HBO
      clear HR hL9
      obtain⟨et,het⟩:∃ et,et=nx L2.tail N:=⟨_,rfl⟩
      rw[←het] at HR2 HEnd HBO⊢
      clear het
      clear HE hE4
      obtain⟨X9,hX9⟩:∃ X9,X9=(((X1.setCell ⟨bi,1,none⟩ (.int .u8 1)).setCell ⟨bi,2,none⟩ (.int .i64 0)).setCell ⟨bi,3,none⟩ (.int .i64 et)).setCell ⟨bi,4,none⟩ (.int .i64 0):=⟨_,rfl⟩
      rw[←hX9] at HR2
      have hokN:∀ b,(ok b∨okI b∨some b=(Value.slice A6 k c6).ownBlock)→p < b∧b < X9.heap.size∧some b≠v.ownBlock:=by
       have h1:=HR2.o.pb
       rintro b (hb|hb|hb)
       ·exact⟨HR2.o.ok_ b hb,HR2.o.o.lt b hb,HR2.o.o.apart b hb⟩
       ·have h2:=HR2.o.okI_ b hb
        exact⟨by omega,HR2.o.inn.lt b hb,λe=>by have:=HR2.o.ownb b e.symm;omega⟩
       ·have h2:=HR2.o.inn.lt_own b hb.symm
        exact⟨by omega,h2.2,λe=>by have:=HR2.o.ownb b e.symm;omega⟩
      have HOkN:=Hm hokN
      have HK:=Hm (HR2.o.o.more (ok':=λb=>ok b∨okI b∨some b=(Value.slice A6 k c6).ownBlock) (λb hb=>.inl hb) (λb hb=>(hokN b hb).2.2) (λb hb=>(hokN b hb).2.1))
      have HY:Hd (kBlock.K X9 (λb=>ok b∨okI b∨some b=(Value.slice A6 k c6).ownBlock) ⟨ys,⟨1,0,et,0⟩⟩ [.slice A6 k c6,.int .u8 1,.int .i64 0,.int .i64 et,.int .i64 0]) :=
       ⟨by
        have:=kBlock_mk (b:=⟨ys,⟨1,0,et,0⟩⟩) HEnd.o (HR2.o.inn.sk.stay (Stays.weaken (ok':=λb=>ok b∨okI b∨some b=(Value.slice A6 k c6).ownBlock) λb hb=>.inr hb))
        exact this⟩
      clear hokN
      subst hX9
      have HR:=HR2
      clear HR2
      go_wp2_with (
       at_builtin
       refine appK iBlock Tryz.underlying57 rfl (.tmp 78) (.tmp 80) rfl rfl (HK.o.bel (bA (bR _) (.cells #[.slice A6 k c6,.int .u8 1,.int .i64 0,.int .i64 et,.int .i64 0] 97))) (show p+1≤(World.alloc _ _).heap.size by have:=HR.o.px;simp only[World.size_alloc];omega) (q:=X1.heap.size) rfl (by simpa using row_new ((((X1.setCell ⟨bi,1,none⟩ (.int .u8 1)).setCell ⟨bi,2,none⟩ (.int .i64 0)).setCell ⟨bi,3,none⟩ (.int .i64 et)).setCell ⟨bi,4,none⟩ (.int .i64 0)) [.slice A6 k c6,.int .u8 1,.int .i64 0,.int .i64 et,.int .i64 0] 97 (0,0)) (kBlock.stay (Stays.below (bA (bR _) _)) HY.o) (by omega) ?_
       intro v5 X5 hk5 hg5 hw5
       have HFin:=Hm ((HR.o.toMF.belN (bA (bR _) (.cells #[.slice A6 k c6,.int .u8 1,.int .i64 0,.int .i64 et,.int .i64 0] 97))).push hg5 hk5 (λb hb=>(HOkN.o b hb).1))
       have hfn5:X5.heap[f]?=some (.cells ([.int .i64 P,.int .i64 V,v]:List Value).toArray 99 (0,0)):=by
        rw[hg5.block f (by have:=HR.o.px;have:=HR.o.fp;simp;omega) (λe=>by have:=(HR.o.o.lt_own f e.symm).1;have:=HR.o.fp;omega)]
        exact bHeap (bA (bR _) _) HR.o.fn
       obtain⟨A7,c7,rfl,-,-,-⟩:=hk5.form
       have hl9:(xs++[(⟨ys,⟨1,0,et,0⟩⟩:Block)]).length=j+1:=by simp[hlj]
       rw[hl9] at HFin⊢
       have u2:X5.cell? ⟨f,2,none⟩=some (v):=by rw[cell_at hfn5];rfl
       have uf:=free_at hfn5 2
       have uz:=World.block_lt_of_cell? _ _ u2
       clear HR HK HY hk5 hg5 hw5 hfn5 b0 b1 b2 b3 b4 g1 g2 g3 g4 f1 f2)
      go_roundw
      case rel=>exact⟨j+1,(λb=>ok b∨okI b∨some b=(Value.slice A6 k c6).ownBlock),.slice A7 (j+1) c7,by omega,by go_num,by rw[HSN.o,HBO.o];exact HFin.o⟩
      case measure=>simp[intOf];omega
     ·have HE:Hd (endOf L2 V N=(⟨2,((nx L2.tail V:Nat):Int),((nx L2.tail.tail N:Nat):Int),((nx L2.tail.tail.tail N:Nat):Int)⟩,L2.tail.tail.tail.tail)):=⟨by unfold endOf;rw[hE4];rfl⟩
      have f1:wr.cell? ⟨f,1,none⟩=some (.int .i64 V):=by rw[cell_at HR.o.fn];rfl
      go_wp2_with fail
      refine(mnext_any p (L2) 4 (by omega) (by omega) _ HR.o.rd).mono ?_
      rintro e X1 ⟨rfl,hs⟩
      have HR':=Hm (HR.o.step hs)
      clear hs HR
      have HR:=HR'
      clear HR'
      rw[hE4]
      have f1:X1.cell? ⟨f,1,none⟩=some (.int .i64 V):=by rw[cell_at HR.o.fn];rfl
      go_wp2_with fail
      refine(mnext_any p (L2.tail) V (by omega) (by omega) _ HR.o.rd).mono ?_
      rintro e X1 ⟨rfl,hs⟩
      have HR':=Hm (HR.o.step hs)
      clear hs HR
      have HR:=HR'
      clear HR'
      have f1:X1.cell? ⟨f,1,none⟩=some (.int .i64 V):=by rw[cell_at HR.o.fn];rfl
      go_wp2_with fail
      refine(mnext_any p (L2.tail.tail) N (by omega) (by omega) _ HR.o.rd).mono ?_
      rintro e X1 ⟨rfl,hs⟩
      have HR':=Hm (HR.o.step hs)
      clear hs HR
      have HR:=HR'
      clear HR'
      have f1:X1.cell? ⟨f,1,none⟩=some (.int .i64 V):=by rw[cell_at HR.o.fn];rfl
      go_wp2_with fail
      refine(mnext_any p (L2.tail.tail.tail) N (by omega) (by omega) _ HR.o.rd).mono ?_
      rintro e X1 ⟨rfl,hs⟩
      have HR':=Hm (HR.o.step hs)
      clear hs HR
      have HR:=HR'
      clear HR'
      have f1:X1.cell? ⟨f,1,none⟩=some (.int .i64 V):=by rw[cell_at HR.o.fn];rfl
      have b1:X1.cell? ⟨bi,1,none⟩=some (.int .u8 0):=by rw[cell_at HR.o.var];rfl
      have g1:=free_at HR.o.var 1
      have b2:X1.cell? ⟨bi,2,none⟩=some (.int .i64 0):=by rw[cell_at HR.o.var];rfl
      have g2:=free_at HR.o.var 2
      have b3:X1.cell? ⟨bi,3,none⟩=some (.int .i64 0):=by rw[cell_at HR.o.var];rfl
      have g3:=free_at HR.o.var 3
      have b4:X1.cell? ⟨bi,4,none⟩=some (.int .i64 0):=by rw[cell_at HR.o.var];rfl
      have g4:=free_at HR.o.var 4
      have b0:X1.cell? ⟨bi,0,none⟩=some (.slice A6 k c6):=by rw[cell_at HR.o.var];rfl
      have f2:X1.cell? ⟨f,2,none⟩=some (v):=by rw[cell_at HR.o.fn];rfl
      have hfb:f < bi:=by have:=HR.o.pb;have:=HR.o.fp;omega
      have hfz:=World.block_lt_of_cell? _ _ f2
      have hbx:=HR.o.bx
      have HR2:=Hm ((((HR.o.put 0 (.int .u8 2)).put 1 (.int .i64 ((nx L2.tail V:Nat):Int))).put 2 (.int .i64 ((nx L2.tail.tail N:Nat):Int))).put 3 (.int .i64 ((nx L2.tail.tail.tail N:Nat):Int)))
      simp only[nilEnd,List.set_cons_zero,List.set_cons_succ,Nat.zero_add,Nat.reduceAdd] at HR2
      have HEnd:=Hm (endOf_fits L2 V N hV1 hV2 hN1 (by omega))
      rw[HE.o] at HEnd HBO
      dsimp only at HEnd HBO
      obtain⟨L9,hL9⟩:∃ L9,L9=L2.tail.tail.tail.tail:=⟨_,rfl⟩
      rw[←hL9] at HR2 HBO
      clear HR hL9
      obtain⟨ea,hea⟩:∃ ea,ea=nx L2.tail V:=⟨_,rfl⟩
      rw[←hea] at HR2 HEnd HBO⊢
      clear hea
      obtain⟨et,het⟩:∃ et,et=nx L2.tail.tail N:=⟨_,rfl⟩
      rw[←het] at HR2 HEnd HBO⊢
      clear het
      obtain⟨ee,hee⟩:∃ ee,ee=nx L2.tail.tail.tail N:=⟨_,rfl⟩
      rw[←hee] at HR2 HEnd HBO⊢
      clear hee
      clear HE hE4
      obtain⟨X9,hX9⟩:∃ X9,X9=(((X1.setCell ⟨bi,1,none⟩ (.int .u8 2)).setCell ⟨bi,2,none⟩ (.int .i64 ea)).setCell ⟨bi,3,none⟩ (.int .i64 et)).setCell ⟨bi,4,none⟩ (.int .i64 ee):=⟨_,rfl⟩
      rw[←hX9] at HR2
      have hokN:∀ b,(ok b∨okI b∨some b=(Value.slice A6 k c6).ownBlock)→p < b∧b < X9.heap.size∧some b≠v.ownBlock:=by
       have h1:=HR2.o.pb
       rintro b (hb|hb|hb)
       ·exact⟨HR2.o.ok_ b hb,HR2.o.o.lt b hb,HR2.o.o.apart b hb⟩
       ·have h2:=HR2.o.okI_ b hb
        exact⟨by omega,HR2.o.inn.lt b hb,λe=>by have:=HR2.o.ownb b e.symm;omega⟩
       ·have h2:=HR2.o.inn.lt_own b hb.symm
        exact⟨by omega,h2.2,λe=>by have:=HR2.o.ownb b e.symm;omega⟩
      have HOkN:=Hm hokN
      have HK:=Hm (HR2.o.o.more (ok':=λb=>ok b∨okI b∨some b=(Value.slice A6 k c6).ownBlock) (λb hb=>.inl hb) (λb hb=>(hokN b hb).2.2) (λb hb=>(hokN b hb).2.1))
      have HY:Hd (kBlock.K X9 (λb=>ok b∨okI b∨some b=(Value.slice A6 k c6).ownBlock) ⟨ys,⟨2,ea,et,ee⟩⟩ [.slice A6 k c6,.int .u8 2,.int .i64 ea,.int .i64 et,.int .i64 ee]) :=
       ⟨by
        have:=kBlock_mk (b:=⟨ys,⟨2,ea,et,ee⟩⟩) HEnd.o (HR2.o.inn.sk.stay (Stays.weaken (ok':=λb=>ok b∨okI b∨some b=(Value.slice A6 k c6).ownBlock) λb hb=>.inr hb))
        exact this⟩
      clear hokN
      subst hX9
      have HR:=HR2
      clear HR2
      go_wp2_with (
       at_builtin
       refine appK iBlock Tryz.underlying57 rfl (.tmp 78) (.tmp 80) rfl rfl (HK.o.bel (bA (bR _) (.cells #[.slice A6 k c6,.int .u8 2,.int .i64 ea,.int .i64 et,.int .i64 ee] 97))) (show p+1≤(World.alloc _ _).heap.size by have:=HR.o.px;simp only[World.size_alloc];omega) (q:=X1.heap.size) rfl (by simpa using row_new ((((X1.setCell ⟨bi,1,none⟩ (.int .u8 2)).setCell ⟨bi,2,none⟩ (.int .i64 ea)).setCell ⟨bi,3,none⟩ (.int .i64 et)).setCell ⟨bi,4,none⟩ (.int .i64 ee)) [.slice A6 k c6,.int .u8 2,.int .i64 ea,.int .i64 et,.int .i64 ee] 97 (0,0)) (kBlock.stay (Stays.below (bA (bR _) _)) HY.o) (by omega) ?_
       intro v5 X5 hk5 hg5 hw5
       have HFin:=Hm ((HR.o.toMF.belN (bA (bR _) (.cells #[.slice A6 k c6,.int .u8 2,.int .i64 ea,.int .i64 et,.int .i64 ee] 97))).push hg5 hk5 (λb hb=>(HOkN.o b hb).1))
       have hfn5:X5.heap[f]?=some (.cells ([.int .i64 P,.int .i64 V,v]:List Value).toArray 99 (0,0)):=by
        rw[hg5.block f (by have:=HR.o.px;have:=HR.o.fp;simp;omega) (λe=>by have:=(HR.o.o.lt_own f e.symm).1;have:=HR.o.fp;omega)]
        exact bHeap (bA (bR _) _) HR.o.fn
       obtain⟨A7,c7,rfl,-,-,-⟩:=hk5.form
       have hl9:(xs++[(⟨ys,⟨2,ea,et,ee⟩⟩:Block)]).length=j+1:=by simp[hlj]
       rw[hl9] at HFin⊢
       have u2:X5.cell? ⟨f,2,none⟩=some (v):=by rw[cell_at hfn5];rfl
       have uf:=free_at hfn5 2
       have uz:=World.block_lt_of_cell? _ _ u2
       clear HR HK HY hk5 hg5 hw5 hfn5 b0 b1 b2 b3 b4 g1 g2 g3 g4 f1 f2)
      go_roundw
      case rel=>exact⟨j+1,(λb=>ok b∨okI b∨some b=(Value.slice A6 k c6).ownBlock),.slice A7 (j+1) c7,by omega,by go_num,by rw[HSN.o,HBO.o];exact HFin.o⟩
      case measure=>simp[intOf];omega
     ·have HE:Hd (endOf L2 V N=(⟨2,((nx L2.tail V:Nat):Int),((nx L2.tail.tail N:Nat):Int),((nx L2.tail.tail.tail N:Nat):Int)⟩,L2.tail.tail.tail.tail)):=⟨by unfold endOf;rw[hE4];rfl⟩
      have f1:wr.cell? ⟨f,1,none⟩=some (.int .i64 V):=by rw[cell_at HR.o.fn];rfl
      go_wp2_with fail
      refine(mnext_any p (L2) 4 (by omega) (by omega) _ HR.o.rd).mono ?_
      rintro e X1 ⟨rfl,hs⟩
      have HR':=Hm (HR.o.step hs)
      clear hs HR
      have HR:=HR'
      clear HR'
      rw[hE4]
      have f1:X1.cell? ⟨f,1,none⟩=some (.int .i64 V):=by rw[cell_at HR.o.fn];rfl
      go_wp2_with fail
      refine(mnext_any p (L2.tail) V (by omega) (by omega) _ HR.o.rd).mono ?_
      rintro e X1 ⟨rfl,hs⟩
      have HR':=Hm (HR.o.step hs)
      clear hs HR
      have HR:=HR'
      clear HR'
      have f1:X1.cell? ⟨f,1,none⟩=some (.int .i64 V):=by rw[cell_at HR.o.fn];rfl
      go_wp2_with fail
      refine(mnext_any p (L2.tail.tail) N (by omega) (by omega) _ HR.o.rd).mono ?_
      rintro e X1 ⟨rfl,hs⟩
      have HR':=Hm (HR.o.step hs)
      clear hs HR
      have HR:=HR'
      clear HR'
      have f1:X1.cell? ⟨f,1,none⟩=some (.int .i64 V):=by rw[cell_at HR.o.fn];rfl
      go_wp2_with fail
      refine(mnext_any p (L2.tail.tail.tail) N (by omega) (by omega) _ HR.o.rd).mono ?_
      rintro e X1 ⟨rfl,hs⟩
      have HR':=Hm (HR.o.step hs)
      clear hs HR
      have HR:=HR'
      clear HR'
      have f1:X1.cell? ⟨f,1,none⟩=some (.int .i64 V):=by rw[cell_at HR.o.fn];rfl
      have b1:X1.cell? ⟨bi,1,none⟩=some (.int .u8 0):=by rw[cell_at HR.o.var];rfl
      have g1:=free_at HR.o.var 1
      have b2:X1.cell? ⟨bi,2,none⟩=some (.int .i64 0):=by rw[cell_at HR.o.var];rfl
      have g2:=free_at HR.o.var 2
      have b3:X1.cell? ⟨bi,3,none⟩=some (.int .i64 0):=by rw[cell_at HR.o.var];rfl
      have g3:=free_at HR.o.var 3
      have b4:X1.cell? ⟨bi,4,none⟩=some (.int .i64 0):=by rw[cell_at HR.o.var];rfl
      have g4:=free_at HR.o.var 4
      have b0:X1.cell? ⟨bi,0,none⟩=some (.slice A6 k c6):=by rw[cell_at HR.o.var];rfl
      have f2:X1.cell? ⟨f,2,none⟩=some (v):=by rw[cell_at HR.o.fn];rfl
      have hfb:f < bi:=by have:=HR.o.pb;have:=HR.o.fp;omega
      have hfz:=World.block_lt_of_cell? _ _ f2
      have hbx:=HR.o.bx
      have HR2:=Hm ((((HR.o.put 0 (.int .u8 2)).put 1 (.int .i64 ((nx L2.tail V:Nat):Int))).put 2 (.int .i64 ((nx L2.tail.tail N:Nat):Int))).put 3 (.int .i64 ((nx L2.tail.tail.tail N:Nat):Int)))
      simp only[nilEnd,List.set_cons_zero,List.set_cons_succ,Nat.zero_add,Nat.reduceAdd] at HR2
      have HEnd:=Hm (endOf_fits L2 V N hV1 hV2 hN1 (by omega))
      rw[HE.o] at HEnd HBO
      dsimp only at HEnd HBO
      obtain⟨L9,hL9⟩:∃ L9,L9=L2.tail.tail.tail.tail:=⟨_,rfl⟩
      rw[←hL9] at HR2 HBO
      clear HR hL9
      obtain⟨ea,hea⟩:∃ ea,ea=nx L2.tail V:=⟨_,rfl⟩
      rw[←hea] at HR2 HEnd HBO⊢
      clear hea
      obtain⟨et,het⟩:∃ et,et=nx L2.tail.tail N:=⟨_,rfl⟩
      rw[←het] at HR2 HEnd HBO⊢
      clear het
      obtain⟨ee,hee⟩:∃ ee,ee=nx L2.tail.tail.tail N:=⟨_,rfl⟩
      rw[←hee] at HR2 HEnd HBO⊢
      clear hee
      clear HE hE4
      obtain⟨X9,hX9⟩:∃ X9,X9=(((X1.setCell ⟨bi,1,none⟩ (.int .u8 2)).setCell ⟨bi,2,none⟩ (.int .i64 ea)).setCell ⟨bi,3,none⟩ (.int .i64 et)).setCell ⟨bi,4,none⟩ (.int .i64 ee):=⟨_,rfl⟩
      rw[←hX9] at HR2
      have hokN:∀ b,(ok b∨okI b∨some b=(Value.slice A6 k c6).ownBlock)→p < b∧b < X9.heap.size∧some b≠v.ownBlock:=by
       have h1:=HR2.o.pb
       rintro b (hb|hb|hb)
       ·exact⟨HR2.o.ok_ b hb,HR2.o.o.lt b hb,HR2.o.o.apart b hb⟩
       ·have h2:=HR2.o.okI_ b hb
        exact⟨by omega,HR2.o.inn.lt b hb,λe=>by have:=HR2.o.ownb b e.symm;omega⟩
       ·have h2:=HR2.o.inn.lt_own b hb.symm
        exact⟨by omega,h2.2,λe=>by have:=HR2.o.ownb b e.symm;omega⟩
      have HOkN:=Hm hokN
      have HK:=Hm (HR2.o.o.more (ok':=λb=>ok b∨okI b∨some b=(Value.slice A6 k c6).ownBlock) (λb hb=>.inl hb) (λb hb=>(hokN b hb).2.2) (λb hb=>(hokN b hb).2.1))
      have HY:Hd (kBlock.K X9 (λb=>ok b∨okI b∨some b=(Value.slice A6 k c6).ownBlock) ⟨ys,⟨2,ea,et,ee⟩⟩ [.slice A6 k c6,.int .u8 2,.int .i64 ea,.int .i64 et,.int .i64 ee]) :=
       ⟨by
        have:=kBlock_mk (b:=⟨ys,⟨2,ea,et,ee⟩⟩) HEnd.o (HR2.o.inn.sk.stay (Stays.weaken (ok':=λb=>ok b∨okI b∨some b=(Value.slice A6 k c6).ownBlock) λb hb=>.inr hb))
        exact this⟩
      clear hokN
      subst hX9
      have HR:=HR2
      clear HR2
      go_wp2_with (
       at_builtin
       refine appK iBlock Tryz.underlying57 rfl (.tmp 78) (.tmp 80) rfl rfl (HK.o.bel (bA (bR _) (.cells #[.slice A6 k c6,.int .u8 2,.int .i64 ea,.int .i64 et,.int .i64 ee] 97))) (show p+1≤(World.alloc _ _).heap.size by have:=HR.o.px;simp only[World.size_alloc];omega) (q:=X1.heap.size) rfl (by simpa using row_new ((((X1.setCell ⟨bi,1,none⟩ (.int .u8 2)).setCell ⟨bi,2,none⟩ (.int .i64 ea)).setCell ⟨bi,3,none⟩ (.int .i64 et)).setCell ⟨bi,4,none⟩ (.int .i64 ee)) [.slice A6 k c6,.int .u8 2,.int .i64 ea,.int .i64 et,.int .i64 ee] 97 (0,0)) (kBlock.stay (Stays.below (bA (bR _) _)) HY.o) (by omega) ?_
       intro v5 X5 hk5 hg5 hw5
       have HFin:=Hm ((HR.o.toMF.belN (bA (bR _) (.cells #[.slice A6 k c6,.int .u8 2,.int .i64 ea,.int .i64 et,.int .i64 ee] 97))).push hg5 hk5 (λb hb=>(HOkN.o b hb).1))
       have hfn5:X5.heap[f]?=some (.cells ([.int .i64 P,.int .i64 V,v]:List Value).toArray 99 (0,0)):=by
        rw[hg5.block f (by have:=HR.o.px;have:=HR.o.fp;simp;omega) (λe=>by have:=(HR.o.o.lt_own f e.symm).1;have:=HR.o.fp;omega)]
        exact bHeap (bA (bR _) _) HR.o.fn
       obtain⟨A7,c7,rfl,-,-,-⟩:=hk5.form
       have hl9:(xs++[(⟨ys,⟨2,ea,et,ee⟩⟩:Block)]).length=j+1:=by simp[hlj]
       rw[hl9] at HFin⊢
       have u2:X5.cell? ⟨f,2,none⟩=some (v):=by rw[cell_at hfn5];rfl
       have uf:=free_at hfn5 2
       have uz:=World.block_lt_of_cell? _ _ u2
       clear HR HK HY hk5 hg5 hw5 hfn5 b0 b1 b2 b3 b4 g1 g2 g3 g4 f1 f2)
      go_roundw
      case rel=>exact⟨j+1,(λb=>ok b∨okI b∨some b=(Value.slice A6 k c6).ownBlock),.slice A7 (j+1) c7,by omega,by go_num,by rw[HSN.o,HBO.o];exact HFin.o⟩
      case measure=>simp[intOf];omega
  ·obtain rfl:j=N:=by omega
   generalize (blockSeq l V j j).1=xs at *
   obtain⟨A5,c5,rfl,-,-,-⟩:=HR.o.o.form
   rw[hlj] at HR
   obtain⟨b0,b1,b2⟩:=cC3 HR.o.fn
   obtain⟨z0,z1,z2⟩:=cC3 HR.o.res
   obtain⟨g0,g1,g2⟩:=fF3 HR.o.res
   have hqz:=World.block_lt_of_cell? _ _ z0
   dsimp only at hqz
   have HS:=Hm (set_at (set_at (set_at HR.o.res 0 (.int .i64 P)) 1 (.int .i64 V)) 2 (.slice A5 j c5))
   have HB:=Hm (bC (bC (bC HR.o.bel HR.o.wq 0 (.int .i64 P)) HR.o.wq 1 (.int .i64 V)) HR.o.wq 2 (.slice A5 j c5))
   have hqp:q < p:=by have:=HR.o.qf;have:=HR.o.fp;omega
   have ho:∀ (X:World) (k:Nat) (a:Value),KRow kBlock X (p+1) 97 ok xs (.slice A5 j c5)→KRow kBlock (X.setCell ⟨q,k,none⟩ a) (p+1) 97 ok xs (.slice A5 j c5):=λX k a h =>
    h.only (Only.grown (F:=λb=>b=q) (grownBy_cell X q k a) (λg e=>by cases e;rfl)) (λb hb e=>by have:=(h.lt_own b hb).1;omega) (λb hb e=>by have:=HR.o.ok_ b hb;omega)
   have HK:=Hm (ho _ 2 (.slice A5 j c5) (ho _ 1 (.int .i64 V) (ho _ 0 (.int .i64 P) HR.o.o)))
   clear ho
   go_wp2_with fail
   obtain⟨y0,y1,y2⟩:=cC3 HS.o
   refine bodyPost_ret (v:=.agg #[.int .i64 P,.int .i64 V,.slice A5 j c5]) (by simp[results,Tryz.results47,go_sem,y0,y1,y2]) rfl ?_
   rw[HQ.o]
   obtain⟨⟨vs,h3,h4⟩,h5,h6⟩:=HK.o
   have hwp:w.heap.size≤p+1:=by have:=HR.o.wq;omega
   exact⟨HB.o,_,ok,rfl,⟨⟨vs,own_base h3 hwp,h4⟩,h5,h6⟩,λb hb=>by have:=HR.o.ok_ b hb;have:=HR.o.wq;omega⟩
section
variable {w:World} {ow:Nat→Nat} {x:Nat} {st:FSt} {h:Hds} {lt:List (List (List UInt8))}
theorem Farm.cell (f:Farm w ow x st h lt) (k:Nat):w.cell? ⟨x,k,none⟩=(farmCells st h)[k]?:=hcell f.head k
theorem Farm.size (f:Farm w ow x st h lt):x < w.heap.size:=hlt f.head
end
theorem box_0 (w:World) (ow:Nat→Nat) (x:Nat) (st:FSt) (h:Hds) (lt:List (List (List UInt8))) (f:Farm w ow x st h lt) (h0:0 < h.bs.length) (hw:st.workers≤3) :
  Calls Tryz.prog 31 #[.pointer (some ⟨x,0,none⟩),.int .i64 0] w λe w'=>e=.returned (.pointer (some ⟨h.bs[0].1,0,none⟩))∧Bel w w':=by
 obtain⟨Ab,cb,e1,e2,e3,e4⟩:=f.row
 have c12:w.cell? ⟨x,12,none⟩=some h.bv:=f.cell 12
 rw[e1] at c12
 have hp:=f.size
 obtain⟨b,off,rfl,z0⟩:=e3 0 (by simpa using h0)
 simp only[List.getElem_map,Nat.add_zero] at z0
 have hl:=f.lens.1
 have hn4:h.bs.length≤4:=by omega
 generalize h.bs[0]=b0 at *
 generalize h.bs.length=n at *
 have hw1:IntKind.u64.wrap (n:Int)=n:=wrap_u64 n (by omega)
 have hn0:¬n=0:=by omega
 have hw0:IntKind.u64.wrap 0=0:=rfl
 have hw00:IntKind.i64.wrap 0=0:=rfl
 have ht:Int.tmod 0 (n:Int)=0:=by simp
 clear f e1 e2 e3 e4 hl
 go_enter Tryz.func31,Tryz.ntmps31
 go_wp2_with fail
 refine rgn [.rd 0,.rd 1,.rd 2,.rd 3,.rd 4,.rd 5,.rd 6,.rd 7,.rd 8,.rd 9,.rd 10,.rd 11,.rd 12,.rd 13,.rd 14,.rd 15,.rd 16] (n:=21) rfl ?_
 iterate 17 (refine line_rd rfl (λK hK=>?_);go_simp;refine hK _ ?_;clear hK K)
 unfold Line
 go_wp2
 go_ret
 exact⟨rfl,bD (bR w)⟩
theorem file_bytes (w:World) (ow:Nat→Nat) (x:Nat) (st:FSt) (h:Hds) (lt:List (List (List UInt8))) (f:Farm w ow x st h lt) :
  Calls Tryz.prog 15 #[.pointer (some ⟨x,0,none⟩)] w λe w'=>∃ v,e=.returned v∧Bel w w'∧OwnB w' w.heap.size v (laid (recsOf st.js)):=by
 have HF:=Hm (bytes_at h.pf st.room _ h.A h.c w f.file)
 have c9:w.cell? ⟨x,9,none⟩=some (.pointer (some ⟨h.pf,0,none⟩)):=f.cell 9
 have hp:=f.size
 clear f
 go_enter Tryz.func15,Tryz.ntmps15
 go_wp2_with fail
 refine HF.o.mono ?_
 rintro e w1 ⟨v,rfl,hb,ho⟩
 have HZ:=Hm (And.intro hb ho)
 obtain⟨A,c,rfl,-⟩:=own_row ho
 clear hb ho
 go_wp2
 go_ret
 exact⟨_,rfl,HZ.o⟩
theorem code_none (w:World) (ow:Nat→Nat) (x:Nat) (st:FSt) (h:Hds) (lt:List (List (List UInt8))) (f:Farm w ow x st h lt) (jobs:List Ls.Job) (last:Nat) (u:FarmUp w ow st h jobs last) (job:Nat) (hj:(job:Int)∉keysOf st.js) :
  Calls Tryz.prog 17 #[.pointer (some ⟨x,0,none⟩),.int .i64 job] w λe w'=>e=.returned (.tuple #[.agg #[.int .i64 0,.int .i64 0,.int .i64 0,.slice none 0 0],.bool false])∧Bel w w':=by
 obtain⟨⟨pb,base,ok,kv,vv,pt,Bt,e1,e2,hb,-⟩,-,-⟩:=u
 have HG:=Hm (λ(wx:World) (hx:Bel w wx)=>bget_none pb h.pf base ok _ _ kv vv _ job wx (hb.bel hx) hj)
 have c10:w.cell? ⟨x,10,none⟩=some h.bp:=f.cell 10
 rw[e1] at c10
 have hp:=f.size
 clear f hb hj e1 e2
 go_enter Tryz.func17,Tryz.ntmps17
 go_wp2_with fail
 refine(HG.o _ (bA (bR w) _)).mono ?_
 rintro e w1 ⟨rfl,hb⟩
 have hk:=bHeap hb (hnew (w:=w) (o:=.cells #[.int .i64 0,.int .i64 0,.int .i64 0,.slice none 0 0] 59) rfl)
 have r0:w1.cell? ⟨w.heap.size,0,none⟩=some (.int .i64 0):=hcell hk 0
 have r1:w1.cell? ⟨w.heap.size,1,none⟩=some (.int .i64 0):=hcell hk 1
 have r2:w1.cell? ⟨w.heap.size,2,none⟩=some (.int .i64 0):=hcell hk 2
 have r3:w1.cell? ⟨w.heap.size,3,none⟩=some (.slice none 0 0):=hcell hk 3
 obtain⟨f0,f1,f2,f3⟩:=fF4 hk
 have hl:=hlt hk
 have HB:=Hm (bT (bA (bR w) _) hb)
 clear hk hb
 go_wp2
 refine bodyPost_ret (v:=.tuple #[.agg #[.int .i64 0,.int .i64 0,.int .i64 0,.slice none 0 0],.bool false]) (by simp[results,Tryz.results17,go_sem,r0,r1,r2,r3]) rfl ?_
 exact⟨rfl,bC (bC (bC (bC HB.o (Nat.le_refl _) _ _) (Nat.le_refl _) _ _) (Nat.le_refl _) _ _) (Nat.le_refl _) _ _⟩
theorem code_some (w:World) (ow:Nat→Nat) (x:Nat) (st:FSt) (h:Hds) (lt:List (List (List UInt8))) (f:Farm w ow x st h lt) (jobs:List Ls.Job) (last:Nat) (u:FarmUp w ow st h jobs last) (i:Nat) (hi:i < st.js.length) (c:Code) (hc:CodeOk c) (hcf:∀ b∈c.blocks,BlockFine b) (hd:st.js[i].2=encCode c) (hl:(encCode c).length≤65536) :
  Calls Tryz.prog 17 #[.pointer (some ⟨x,0,none⟩),.int .i64 st.js[i].1] w λe w'=>Bel w w'∧∃ v,e=.returned (.tuple #[.agg #[.int .i64 c.params,.int .i64 c.regs,.int .i64 c.slots,v],.bool true])∧Kd.SK kBlock w' (λb=>w.heap.size≤b) c.blocks v:=by
 obtain⟨⟨pb,base,ok,kv,vv,pt,Bt,e1,e2,hb,-⟩,-,-⟩:=u
 have hik:i < (keysOf st.js).length:=by simpa [keysOf] using hi
 have hiv:i < (valsOf st.js).length:=by simpa [valsOf] using hi
 have hk1:(keysOf st.js)[i]=(st.js[i].1:Int):=by simp[keysOf]
 have hv1:(valsOf st.js)[i]=encCode c:=by rw[←hd];simp[valsOf]
 have HG:=Hm (λ(wx:World) (hx:Bel w wx)=>bget_some pb h.pf base ok _ _ kv vv _ i hik hiv (by rw[hv1];omega) wx (hb.bel hx))
 rw[hk1,hv1] at HG
 have HC:=Hm (λ(wx:World) (A:Option Addr) (ca:Nat) (hA:Bytes wx A (encCode c))=>readCode_any c hc hcf A ca wx hA hl)
 have c10:w.cell? ⟨x,10,none⟩=some h.bp:=f.cell 10
 rw[e1] at c10
 have hp:=f.size
 clear f hb e1 e2 hik hiv hk1 hv1 hc hcf hd hl
 generalize st.js[i]=jd at *
 clear hi
 generalize encCode c=C at *
 obtain⟨cp,cr,cs,cb⟩:=c
 dsimp only at *
 go_enter Tryz.func17,Tryz.ntmps17
 go_wp2_with fail
 refine(HG.o _ (bA (bR w) _)).mono ?_
 rintro e w1 ⟨v,rfl,hb,ho⟩
 obtain⟨A1,c1,rfl,hr1,-⟩:=own_row ho
 have hk:=bHeap hb (hnew (w:=w) (o:=.cells #[.int .i64 0,.int .i64 0,.int .i64 0,.slice none 0 0] 59) rfl)
 have HB1:=Hm hb
 have HK:=Hm hk
 have HC1:=Hm (HC.o w1 A1 c1 hr1)
 clear hb ho hr1 hk HC HG
 go_wp2_with fail
 refine HC1.o.mono ?_
 rintro e w2 ⟨hb2,v2,ok2,rfl,hs2,hok2⟩
 obtain⟨A2,c2,rfl,-⟩:=sk_form hs2
 have hk:=bHeap hb2 HK.o
 have r0:w2.cell? ⟨w.heap.size,0,none⟩=some (.int .i64 0):=hcell hk 0
 have r1:w2.cell? ⟨w.heap.size,1,none⟩=some (.int .i64 0):=hcell hk 1
 have r2:w2.cell? ⟨w.heap.size,2,none⟩=some (.int .i64 0):=hcell hk 2
 have r3:w2.cell? ⟨w.heap.size,3,none⟩=some (.slice none 0 0):=hcell hk 3
 obtain⟨f0,f1,f2,f3⟩:=fF4 hk
 have hl:=hlt hk
 have hs1:=HB1.o.size
 have HB2:=Hm (bT (bA (bR w) _) (bT HB1.o hb2))
 have HS2:=Hm (And.intro hs2 (And.intro hok2 hs1))
 have HKf:=Hm hk
 clear hk hb2 hs2 hok2 hs1
 go_wp2
 have hfin:(((((w2.setCell ⟨w.heap.size,0,none⟩ (.int .i64 cp)).setCell ⟨w.heap.size,1,none⟩ (.int .i64 cr)).setCell ⟨w.heap.size,2,none⟩ (.int .i64 cs)).setCell ⟨w.heap.size,3,none⟩ (.slice A2 cb.length c2)).alloc (.cells #[.int .i64 cp,.int .i64 cr,.int .i64 cs,.slice A2 cb.length c2] 59)).heap[w.heap.size]?=some (.cells #[.int .i64 cp,.int .i64 cr,.int .i64 cs,.slice A2 cb.length c2] 59 (0,0)):=by
  refine hold ?_ (by simp;omega)
  rw[Go.Joins.block_setCell (Go.Joins.block_setCell (Go.Joins.block_setCell (Go.Joins.block_setCell HKf.o _) _) _) _]
  rfl
 have hgr:w2.grownBy (((((w2.setCell ⟨w.heap.size,0,none⟩ (.int .i64 cp)).setCell ⟨w.heap.size,1,none⟩ (.int .i64 cr)).setCell ⟨w.heap.size,2,none⟩ (.int .i64 cs)).setCell ⟨w.heap.size,3,none⟩ (.slice A2 cb.length c2)).alloc (.cells #[.int .i64 cp,.int .i64 cr,.int .i64 cs,.slice A2 cb.length c2] 59)) (some w.heap.size) :=
  grownBy_trans (grownBy_trans (grownBy_trans (grownBy_trans (grownBy_cell _ _ _ _) (grownBy_cell _ _ _ _)) (grownBy_cell _ _ _ _)) (grownBy_cell _ _ _ _)) (grownBy_below (bA (bR _) _))
 generalize (((((w2.setCell ⟨w.heap.size,0,none⟩ (.int .i64 cp)).setCell ⟨w.heap.size,1,none⟩ (.int .i64 cr)).setCell ⟨w.heap.size,2,none⟩ (.int .i64 cs)).setCell ⟨w.heap.size,3,none⟩ (.slice A2 cb.length c2)).alloc (.cells #[.int .i64 cp,.int .i64 cr,.int .i64 cs,.slice A2 cb.length c2] 59))=w4 at *
 have q0:w4.cell? ⟨w.heap.size,0,none⟩=some (.int .i64 cp):=hcell hfin 0
 have q1:w4.cell? ⟨w.heap.size,1,none⟩=some (.int .i64 cr):=hcell hfin 1
 have q2:w4.cell? ⟨w.heap.size,2,none⟩=some (.int .i64 cs):=hcell hfin 2
 have q3:w4.cell? ⟨w.heap.size,3,none⟩=some (.slice A2 cb.length c2):=hcell hfin 3
 refine bodyPost_ret (v:=.tuple #[.agg #[.int .i64 cp,.int .i64 cr,.int .i64 cs,.slice A2 cb.length c2],.bool true]) (by simp[results,Tryz.results17,go_sem,q0,q1,q2,q3]) rfl ?_
 have hsz:w.heap.size < w1.heap.size:=by have:=hlt HK.o;exact this
 refine⟨bG HB2.o hgr (λk hk=>by cases hk;exact Nat.le_refl _),_,rfl,(HS2.o.1.stay (Stays.grown hgr (λb hb e=>by have:=HS2.o.2.1 b hb;simp at e;omega))).stay (Stays.weaken λb hb=>by have:=HS2.o.2.1 b hb;omega)⟩
theorem jobs_rows (w:World) (ow:Nat→Nat) (x:Nat) (st:FSt) (h:Hds) (lt:List (List (List UInt8))) (f:Farm w ow x st h lt) (jobs:List Ls.Job) (last:Nat) (u:FarmUp w ow st h jobs last) :
  Calls Tryz.prog 12 #[.pointer (some ⟨x,0,none⟩)] w λe w'=>Bel w w'∧∃ v,e=.returned v∧Ls.JobsAt w' w.heap.size v jobs:=by
 obtain⟨⟨pb,base,ok,kv,vv,pt,Bt,e1,e2,-,ht,-⟩,-,-⟩:=u
 have HJ:=Hm (Ls.jobs_any pt Bt jobs st.t last w ht)
 have c11:w.cell? ⟨x,11,none⟩=some h.tp:=f.cell 11
 rw[e2] at c11
 have hp:=f.size
 clear f ht e1 e2
 go_enter Tryz.func12,Tryz.ntmps12
 go_wp2_with fail
 refine HJ.o.mono ?_
 rintro e w1 ⟨hb,v,rfl,ho⟩
 have HZ:=Hm (And.intro hb ho)
 have hv:∃ A c,v=.slice A jobs.length c:=by
  rcases ho.2 with ⟨rfl,h0⟩|⟨g,c,cur,h1,-⟩
  ·exact⟨none,0,by rw[h0]⟩
  ·exact⟨_,_,h1⟩
 obtain⟨A,c,rfl⟩:=hv
 clear hb ho
 go_wp2
 go_ret
 exact⟨HZ.o.1,_,rfl,HZ.o.2⟩
end Go.Proofs.YtjkgligohegaeaaGreatDoor
