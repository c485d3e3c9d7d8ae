/- Lemmas of the row. -/
import Derived.Test.YtjkgligohegaeaaGreatDoorN23
set_option linter.all false
set_option maxRecDepth 20000
set_option maxHeartbeats 12800000
namespace Go.Proofs.YtjkgligohegaeaaGreatDoor
open Go.RowKit
theorem naive_any (f:Func) (hs:Small f) (regs:Nat) (h3:3≤regs) (h8:regs≤8) (l:List UInt8) (hl:l.length≤200) (A:Option Addr) (ca:Nat) (hc:l.length≤ca) (ok0:Nat→Prop) (v0:Value) (w:World) (hv:Kd.SK kBlock w ok0 f.blocks v0) (hA:Bytes w A l) :
  Calls Tryz.prog 40 #[.agg #[.int .i64 f.params,.int .i64 f.vregs,v0],.int .i64 regs,.slice A l.length ca] w (NaivePost w f regs l):=by
 have HS:=Hm hs
 have HV:=Hm hv
 have HA:=Hm (And.intro hA (And.intro hl hc))
 obtain⟨A0,c0,rfl,hc0,hcm0⟩:=sk_form hv
 obtain⟨V,hV⟩:∃ V:Nat,f.vregs=V:=⟨f.vregs.toNat,by have:=hs.ok.p0;have:=hs.ok.pv;omega⟩
 have hV15:V≤15:=by have:=hs.v15;omega
 have hb7:=hs.b7
 have HF:Hd (f=f):=⟨rfl⟩
 obtain⟨pr,hpr⟩:∃ pr,f.params=pr:=⟨_,rfl⟩
 obtain⟨fb,hfb⟩:∃ fb,f.blocks=fb:=⟨_,rfl⟩
 have HE:=Hm (And.intro hpr (And.intro hV hfb))
 rw[hfb] at hc0 HV hb7⊢
 rw[hpr,hV]
 clear hs hv hA hl hc hpr hV hfb
 generalize hn:l.length=n at *
 have HN:=Hm hn
 clear hn HF
 go_enter Tryz.func40,Tryz.ntmps40
 go_wp2_with fail
 obtain⟨W0,hW0⟩:∃ W0,W0=(((w.alloc (.cells #[.int .i64 pr,.int .i64 V,.slice A0 fb.length c0] 99)).alloc (.cells #[.slice A n ca] 38)).alloc (.cells #[.int .i64 0,.int .i64 0,.int .i64 0,.slice none 0 0] 59)).alloc (.cells #[.int .i64 pr,.int .i64 regs,.int .i64 V,.slice none 0 0] 59):=⟨_,rfl⟩
 rw[←hW0]
 have HW0:Hd (Bel w W0∧W0.heap.size=w.heap.size+4∧W0.heap[w.heap.size]?=some (.cells ([.int .i64 pr,.int .i64 V,.slice A0 fb.length c0]:List Value).toArray 99 (0,0))∧W0.heap[w.heap.size+1]?=some (.cells ([.slice A n ca]:List Value).toArray 38 (0,0)) ∧
   W0.heap[w.heap.size+1+1]?=some (.cells ([.int .i64 0,.int .i64 0,.int .i64 0,.slice none 0 0]:List Value).toArray 59 (0,0))∧W0.heap[w.heap.size+1+1+1]?=some (.cells ([.int .i64 pr,.int .i64 regs,.int .i64 V,.slice none 0 0]:List Value).toArray 59 (0,0))):=⟨by
  subst hW0
  exact⟨bA (bA (bA (bA (bR w) _) _) _) _,by simp,bHeap (bA (bA (bA (bR _) _) _) _) (hnew rfl),bHeap (bA (bA (bR _) _) _) (hnew (by simp)),bHeap (bA (bR _) _) (hnew (by simp)),hnew (by simp)⟩⟩
 clear hW0
 obtain⟨B,hB⟩:∃ B,B=w.heap.size:=⟨_,rfl⟩
 rw[←hB] at HW0⊢
 have HBe:=Hm hB
 clear hB
 obtain⟨p,hp⟩:∃ p,p=B+1:=⟨_,rfl⟩
 obtain⟨q,hq⟩:∃ q,q=p+1:=⟨_,rfl⟩
 obtain⟨c,hcc⟩:∃ c,c=q+1:=⟨_,rfl⟩
 simp only[←hp,←hq,←hcc] at HW0⊢
 have HP:=Hm (And.intro hp (And.intro hq hcc))
 clear hp hq hcc
 go_loopw [9,31] (λvh i wr=>∃ k:Nat,k≤V∧i=.int .i64 k∧Bel W0 wr∧KRow kPair wr (c+1) 119 (λ_=>False) (homeL regs k) vh) (λ_ i _=>V-(intOf i).toNat)
 case atStart=>exact⟨0,Nat.zero_le _,rfl,bR _,KRow.none _ _ _ _ (λ_ h=>h.elim)⟩
 case round =>
  obtain⟨k,hk,rfl,hb,hko⟩:=hrel
  have HB:=Hm hb
  have HK:=Hm hko
  obtain⟨A6,c6,rfl,-,-,-⟩:=hko.form
  rw[home_len]
  rw[home_len] at HK
  have hcz:c+1≤wr.heap.size:=by have:=hb.size;have:=HW0.o.2.1;have:=HP.o;omega
  clear hb hko
  by_cases hkt:k < V
  ·have HY:Hd (∀ W':World,kPair.K W' (λ_=>False) ⟨(k:Int),(regs:Int)+(k:Int)⟩ [.int .i64 k,.int .i64 ((regs:Int)+(k:Int))]):=⟨λW'=>kPair_mk (wf64.2 (by dsimp only;omega)) (wf64.2 (by dsimp only;omega))⟩
   go_wp2_with (first
    |(at_builtin;refine appK iPair Tryz.underlying117 rfl (.tmp 34) (.tmp 40) rfl rfl (HK.o.bel (bA (bR _) (.cells #[.int .i64 k,.int .i64 ((regs:Int)+(k:Int))] 119))) (show c+1≤(wr.alloc _).heap.size by simp;omega) (q:=wr.heap.size) rfl (row_new _ _ _ _) (HY.o _) (show ((homeL regs k).length+1)*16≤140737488355328 by rw[home_len];omega) ?_)
    |fail)
   intro v7 X4 hk7 hg7 hw7
   rw[←homeL_snoc] at hk7
   have hr:∀ b,(Value.slice A6 k c6).ownBlock=some b→c+1≤b:=λb hb=>by
    have:=HK.o.lt_own b (by rw[←hb]);omega
   have HB6:Hd (Bel W0 X4):=⟨bG (bA HB.o _) hg7 (λb hb=>by have:=hr b hb;have:=HW0.o.2.1;have:=HP.o;omega)⟩
   have HK7:=Hm hk7
   clear hk7 hg7 hw7 HB HK HY
   go_wp2_with fail
   go_roundw
   case rel=>exact⟨k+1,by omega,by go_num,HB6.o,HK7.o⟩
   case measure=>simp[intOf];omega
  ·obtain rfl:V=k:=by omega
   have q2:wr.cell? ⟨B,2,none⟩=some (.slice A0 fb.length c0):=by rw[bCell HB.o (cell_at HW0.o.2.2.1)]
   have hBl:=World.block_lt_of_cell? _ _ q2
   have HO0:Hd (NO w wr p q c l pr V regs (.slice A6 V c6) (λ_=>False) [] (.slice none 0 0) (λ_=>False) [] (.slice none 0 0) wr.heap.size):=⟨by
    obtain⟨e1,e2,e3⟩:=HP.o
    obtain⟨b0,z0,y0,y1,y2,y3⟩:=HW0.o
    have hBe:=HBe.o
    have hsz:=HB.o.size
    exact {
     bel:=bT b0 HB.o
     rd:=⟨A,ca,by rw[HN.o];exact bHeap HB.o y1,HA.o.1.below (bT b0 HB.o),λh0 a ha=>by have:=row_lt HA.o.1 (by simpa using h0) a ha;omega,by rw[HN.o];exact HA.o.2.2,by rw[HN.o];exact HA.o.2.1⟩
     wp:=by omega
     pq:=by omega
     qc:=by omega
     cm:=by omega
     mx:=Nat.le_refl _
     res:=bHeap HB.o y2
     cd:=bHeap HB.o y3
     hom:=HK.o
     o:=KRow.none _ _ _ _ (λ_ h=>h.elim)
     cer:=KRow.none _ _ _ _ (λ_ h=>h.elim)
     ok_:=λ_ h=>h.elim
     okc_:=λ_ h=>h.elim
     ah:=λb hb=>⟨(HK.o.lt_own b hb).2,by simp[Value.ownBlock],by simp[Value.ownBlock]⟩
     ac:=λb hb=>by simp[Value.ownBlock] at hb
     av:=λb hb=>by simp[Value.ownBlock] at hb }⟩
   go_wp2_with fail
   clear q2 hBl hcz HB HK
   go_loopw [11,47] (λvc i wr=>OutN w p q c l pr V regs fb (.slice A6 V c6) vc i wr) (λ_ i _=>fb.length-(intOf i).toNat)
   case atStart=>exact⟨0,_,_,_,Nat.zero_le _,rfl,HO0.o⟩
   case round =>
    obtain⟨j,ok,v,okc,hj,rfl,hno⟩:=hrel
    have HO:=Hm hno
    clear HO0
    obtain⟨Av,cv,rfl,-,-,-⟩:=hno.o.form
    obtain⟨Ac,cc,rfl,-,-,-⟩:=hno.cer.form
    have hl1:(nvBlocks regs (fb.take j) l).length=j:=by rw[nvBlocks_len'];simp;omega
    have hl2:((fb.take j).map λ_=>homeL regs V).length=j:=by simp;omega
    rw[hl1,hl2] at HO
    rw[hl2]
    clear hno
    by_cases hjt:j < fb.length
    ·have htk:=take_snoc' fb j hjt
     have hs1:nvBlocks regs (fb.take (j+1)) l=nvBlocks regs (fb.take j) l++[nvBlock regs fb[j] (nvLeft (fb.take j) l)]:=by rw[htk,nvBlocks_snoc]
     have hs2:((fb.take (j+1)).map λ_=>homeL regs V)=((fb.take j).map λ_=>homeL regs V)++[homeL regs V]:=by rw[htk,List.map_append];rfl
     have hs3:nvLeft (fb.take (j+1)) l=nvRest fb[j] (nvLeft (fb.take j) l):=by rw[htk,nvLeft_snoc]
     have HSt:=Hm (And.intro hs1 (And.intro hs2 hs3))
     have HOkB:=Hm (HS.o.ok.blocks fb[j] (by rw[HE.o.2.2];exact List.getElem_mem hjt))
     have HIn:=Hm (HS.o.n fb[j] (by rw[HE.o.2.2];exact List.getElem_mem hjt))
     have hi8:=HS.o.i8 fb[j] (by rw[HE.o.2.2];exact List.getElem_mem hjt)
     rw[HE.o.2.1] at HOkB
     obtain⟨bb,off,cB,v1,e,-,hfin,hsi,x0,x1,x2,x3,x4⟩:=sk_block HV.o j hjt
     replace x0:=bCell HO.o.bel x0
     replace x1:=bCell HO.o.bel x1
     replace x2:=bCell HO.o.bel x2
     replace x3:=bCell HO.o.bel x3
     replace x4:=bCell HO.o.bel x4
     simp only[Value.slice.injEq] at e
     obtain⟨rfl,-,rfl⟩:=e
     obtain⟨A1,c1,rfl,-⟩:=sk_form hsi
     generalize nvBlocks regs (fb.take j) l=xs at *
     generalize ((fb.take j).map λ_=>homeL regs V)=cs at *
     generalize nvLeft (fb.take j) l=L at *
     generalize fb[j]=y at *
     obtain⟨yi,⟨yk,ya,yt,ye⟩⟩:=y
     dsimp only at *
     have HSi:=Hm hsi
     have HFi:=Hm hfin
     clear htk hs1 hs2 hs3 hsi hfin
     go_wp2_with fail
     obtain⟨X1,hX1⟩:∃ X1,X1=(wr.alloc (.cells #[.slice A1 yi.length c1,.int .u8 yk,.int .i64 ya,.int .i64 yt,.int .i64 ye] 97)).alloc (.cells #[.slice none 0 0,.int .u8 0,.int .i64 0,.int .i64 0,.int .i64 0] 97):=⟨_,rfl⟩
     obtain⟨m,hm⟩:∃ m,m=wr.heap.size:=⟨_,rfl⟩
     obtain⟨bc,hbc⟩:∃ bc:List Value,bc=[.slice A1 yi.length c1,.int .u8 yk,.int .i64 ya,.int .i64 yt,.int .i64 ye]:=⟨_,rfl⟩
     have HBc:=Hm hbc
     have HB1:Hd (InN w p q c L pr V regs (.slice A6 V c6) ok xs (.slice Av j cv) okc cs (.slice Ac j cc) m (m+1) bc yi (.int .i64 0) X1):=⟨by
      subst hX1 hm hbc
      refine⟨0,λ_=>False,.slice none 0 0,Nat.zero_le _,rfl,HO.o.belN (bA (bA (bR _) _) _),⟨hnew (by simp),KRow.none _ _ _ _ (λ_ h=>h.elim),λ_ h=>h.elim⟩,bHeap (bA (bR _) _) (hnew rfl)⟩⟩
     rw[←hX1,←hm]
     clear hX1 hm hbc x0 x1 x2 x3 x4 HO
     obtain⟨x,hx⟩:∃ x,x=m+1:=⟨_,rfl⟩
     rw[←hx] at HB1⊢
     have hmx:m < x:=by omega
     clear hx
     go_loopw [55] (λi wr=>InN w p q c L pr V regs (.slice A6 V c6) ok xs (.slice Av j cv) okc cs (.slice Ac j cc) m x bc yi i wr) (λi _=>yi.length-(intOf i).toNat)
     case atStart=>exact HB1.o
     case round =>
      obtain⟨k,okI,vI,hk,rfl,hno,hni,hmb⟩:=hrel
      have HO:=Hm hno
      have HI:=Hm hni
      have HMb:=Hm hmb
      clear HB1
      obtain⟨AI,cI,rfl,-,-,-⟩:=hni.inn.form
      by_cases hkt:k < yi.length
      ·have hstep:=nvL_take regs yi L k hkt
       have hdrop:(L.drop k).tail=L.drop (k+1):=by rw[List.tail_drop]
       have hok:=HOkB.o.ins _ (List.getElem_mem hkt)
       have hin:=HIn.o _ (List.getElem_mem hkt)
       have hys:(nvL regs (yi.take k) L).length≤40:=by
        have h1:=nvL_len regs (yi.take k) L (λi hi=>(HOkB.o.ins i (List.mem_of_mem_take hi)).args3)
        simp at h1;omega
       obtain⟨ib,io,ic,va,e,-,hfit,hsa,z0,z1,z2,z3,z4,z5,z6⟩:=sk_ins HSi.o k hkt
       simp only[Value.slice.injEq] at e
       obtain⟨rfl,-,rfl⟩:=e
       obtain⟨A2,c2,rfl,-⟩:=sk_form hsa
       replace z0:=bCell HO.o.bel z0
       replace z1:=bCell HO.o.bel z1
       replace z2:=bCell HO.o.bel z2
       replace z3:=bCell HO.o.bel z3
       replace z4:=bCell HO.o.bel z4
       replace z5:=bCell HO.o.bel z5
       replace z6:=bCell HO.o.bel z6
       have hnn:=chd_lt (L.drop k)
       have HSt2:=Hm (And.intro hstep hdrop)
       have hx79:=Hm (λ(wx:World) h=>next_any' p (L.drop k) wx h)
       clear hstep hdrop
       rw[show nvIns regs (chd (L.drop k)) yi[k]=nvI (chd (L.drop k) % regs) (chd (L.drop k) / 8 % regs) (chd (L.drop k) % 3) ((chd (L.drop k)+1) % 3) yi[k] from rfl] at HSt2
       generalize nvL regs (yi.take k) L=ys at *
       generalize chd (L.drop k)=nn at *
       generalize yi[k]=y at *
       obtain⟨ik,iop,id,ia,ibb,inn,iargs⟩:=y
       dsimp only at *
       have HSa:=Hm hsa
       have HFit:=Hm hfit
       have HOki:=Hm hok
       have HInn:=Hm hin
       clear hsa hfit hok hin hno hni hmb
       go_wp2_with fail
       have HS1:=Hm (HI.o.begin HMb.o hmx [.int .u8 ik,.int .u8 iop,.int .i64 id,.int .i64 ia,.int .i64 ibb,.int .i64 inn,.slice A2 iargs.length c2])
       have HO1:=Hm (HO.o.belN (bA (bA (bR wr) (.cells #[.int .u8 ik,.int .u8 iop,.int .i64 id,.int .i64 ia,.int .i64 ibb,.int .i64 inn,.slice A2 iargs.length c2] 91)) (.cells #[.int .u8 ik,.int .u8 iop,.int .i64 id,.int .i64 ia,.int .i64 ibb,.int .i64 inn,.slice A2 iargs.length c2] 91)))
       refine(hx79.o _ HO1.o.rd).mono ?_
       rintro e X2 ⟨rfl,hst⟩
       have hpm:p < m:=by have:=HO.o.pq;have:=HO.o.qc;have:=HO.o.cm;omega
       have hno2:=HO1.o.next hst
       rw[HSt2.o.2] at hno2
       have HO2:=Hm hno2
       clear hno2
       have HS2:=Hm (HS1.o.only hst.only (λb e=>by omega))
       obtain⟨ii,hii⟩:∃ ii,ii=wr.heap.size:=⟨_,rfl⟩
       rw[←hii] at HS2⊢
       obtain⟨ui,hui⟩:∃ ui,ui=ii+1:=⟨_,rfl⟩
       rw[←hui] at HS2⊢
       clear hx79 z0 z1 z2 z3 z4 z5 z6 hst HO1 HS1 HI HMb HO hii hui
       have hk6:ik=1∨ik=2∨ik=3∨ik=4∨ik=5∨ik=6:=by have:=HOki.o.k1;have:=HOki.o.k6;dsimp only at *;omega
       have i0:X2.cell? ⟨ii,0,none⟩=some (.int .u8 ik):=cell_at HS2.o.mi
       have hil:=World.block_lt_of_cell? _ _ i0
       dsimp only at hil
       have hkx:ii < ui∧x < ii:=⟨HS2.o.iu,HS2.o.xi⟩
       obtain⟨hiu,hxi⟩:=hkx
       obtain⟨r,hr⟩:∃ r,r=nn % regs:=⟨_,rfl⟩
       obtain⟨rd,hrd⟩:∃ rd,rd=nn / 8 % regs:=⟨_,rfl⟩
       obtain⟨r1,hr1⟩:∃ r1,r1=nn % 3:=⟨_,rfl⟩
       obtain⟨r2,hr2⟩:∃ r2,r2=(nn+1) % 3:=⟨_,rfl⟩
       have hrr:r < regs:=by rw[hr];exact Nat.mod_lt _ (by omega)
       have hrdr:rd < regs:=by rw[hrd];exact Nat.mod_lt _ (by omega)
       have hr13:r1 < 3:=by rw[hr1];exact Nat.mod_lt _ (by omega)
       have hr23:r2 < 3:=by rw[hr2];exact Nat.mod_lt _ (by omega)
       have t0:(nn:Int).tmod (regs:Int)=(r:Int):=by rw[hr];exact(Int.natCast_emod _ _).symm
       have t0':(nn:Int) % (regs:Int)=(r:Int):=by rw[hr];exact(Int.natCast_emod _ _).symm
       have td:((nn:Int) / 8).tmod (regs:Int)=(rd:Int):=by
        rw[hrd,show ((nn:Int) / 8)=((nn / 8:Nat):Int) by omega]
        exact(Int.natCast_emod _ _).symm
       have td':((nn:Int) / 8) % (regs:Int)=(rd:Int):=by
        rw[hrd,show ((nn:Int) / 8)=((nn / 8:Nat):Int) by omega]
        exact(Int.natCast_emod _ _).symm
       have t1:(nn:Int).tmod 3=(r1:Int):=by rw[hr1];rfl
       have t2:((nn:Int)+1).tmod 3=(r2:Int):=by rw[hr2];rfl
       have hnz:¬(regs:Int)=0:=by omega
       have hnz':¬regs=0:=by omega
       have tw:IntKind.i64.wrap ((nn:Int)+1)=(nn:Int)+1:=Go.IntWalk.i64_in _ (by omega)
       have tw1:IntKind.i64.wrap (r1:Int)=(r1:Int):=Go.IntWalk.i64_in _ (by omega)
       have tw2:IntKind.i64.wrap (r2:Int)=(r2:Int):=Go.IntWalk.i64_in _ (by omega)
       have tw0:IntKind.i64.wrap (r:Int)=(r:Int):=Go.IntWalk.i64_in _ (by omega)
       rw[←hr,←hrd,←hr1,←hr2] at HSt2
       clear hr hrd hr1 hr2
       rcases hk6 with rfl|rfl|rfl|rfl|rfl|rfl
       ·skip
        obtain rfl:iargs=[]:=HOki.o.args0 (by dsimp only;omega)
        clear i0 hil
        obtain⟨i0,-,i2,i3,i4,-,i6⟩:=cC7 HS2.o.mi
        obtain⟨u0,u1,u2,u3,u4,u5,u6⟩:=cC7 HS2.o.mu
        have gu:=free_at HS2.o.mu
        have xv:X2.cell? ⟨x,0,none⟩=some (.slice AI ys.length cI):=cell_at HS2.o.ni.var
        have gx:=free_at HS2.o.ni.var 0
        have hil:=hlt HS2.o.mi
        have hul:=hlt HS2.o.mu
        have hxl:=hlt HS2.o.ni.var
        go_wp2_with fail
        have HO21:=Hm (HO2.o.above (oC (F:=λb=>b=ui) (Only.refl X2 _) rfl 6 (.slice none 0 0)) (λb e=>by omega))
        have HS21:Hd (NS (X2.setCell ⟨ui,6,none⟩ (.slice none 0 0)) m x ii ui bc okI ys (.slice AI ys.length cI) nvNil [.int .u8 1,.int .u8 iop,.int .i64 id,.int .i64 ia,.int .i64 ibb,.int .i64 inn,.slice A2 ([]:List Int).length c2] [.int .u8 1,.int .u8 iop,.int .i64 id,.int .i64 ia,.int .i64 ibb,.int .i64 inn,.slice none 0 0]):=⟨HS2.o.setU 6 (.slice none 0 0)⟩
        clear i0 i2 i3 i4 i6 u0 u1 u2 u3 u4 u5 u6 gu xv gx hil hul hxl
        generalize X2.setCell ⟨ui,6,none⟩ (.slice none 0 0)=X21 at HO21 HS21⊢
        obtain⟨i0,-,i2,i3,i4,-,i6⟩:=cC7 HS21.o.mi
        obtain⟨u0,u1,u2,u3,u4,u5,u6⟩:=cC7 HS21.o.mu
        have gu:=free_at HS21.o.mu
        have xv:X21.cell? ⟨x,0,none⟩=some (.slice AI ys.length cI):=cell_at HS21.o.ni.var
        have gx:=free_at HS21.o.ni.var 0
        have hil:=hlt HS21.o.mi
        have hul:=hlt HS21.o.mu
        have hxl:=hlt HS21.o.ni.var
        refine wp_loop_rounds 1 ?_
        rw[rounds_succ]
        have HO22:=Hm (HO21.o.above (oC (F:=λb=>b=ui) (Only.refl X21 _) rfl 2 (.int .i64 rd)) (λb e=>by omega))
        have HS22:Hd (NS (X21.setCell ⟨ui,2,none⟩ (.int .i64 rd)) m x ii ui bc okI ys (.slice AI ys.length cI) nvNil [.int .u8 1,.int .u8 iop,.int .i64 id,.int .i64 ia,.int .i64 ibb,.int .i64 inn,.slice A2 ([]:List Int).length c2] [.int .u8 1,.int .u8 iop,.int .i64 rd,.int .i64 ia,.int .i64 ibb,.int .i64 inn,.slice none 0 0]):=⟨HS21.o.setU 2 (.int .i64 rd)⟩
        have HKp:=Hm (HS22.o.ni.inn)
        have hKu:∀ W':World,kIns.K W' okI (⟨1,iop,rd,ia,ibb,inn,[]⟩:Ins) [.int .u8 1,.int .u8 iop,.int .i64 rd,.int .i64 ia,.int .i64 ibb,.int .i64 inn,.slice none 0 0]:=λW'=>kIns_mk (i:=(⟨1,iop,rd,ia,ibb,inn,[]⟩:Ins)) ⟨HFit.o.kind,HFit.o.op,wf64.2 (by dsimp only;omega),HFit.o.a,HFit.o.b,HFit.o.n⟩ (Kd.SK.nil 0 (Nat.zero_le _) none)
        have hKs:∀ W':World,kIns.K W' okI (spillI id rd) [.int .u8 7,.int .u8 0,.int .i64 id,.int .i64 rd,.int .i64 0,.int .i64 0,.slice none 0 0]:=λW'=>kIns_mk (i:=spillI id rd) ⟨wf8.2 (by simp[spillI]),wf8.2 (by simp[spillI]),HFit.o.d,wf64.2 (by simp[spillI];omega),wf64.2 (by simp[spillI]),wf64.2 (by simp[spillI])⟩ (Kd.SK.nil 0 (Nat.zero_le _) none)
        have HAp:Hd (∀ W':World,kIns.All W' okI [(⟨1,iop,rd,ia,ibb,inn,[]⟩:Ins),spillI id rd] [.int .u8 1,.int .u8 iop,.int .i64 rd,.int .i64 ia,.int .i64 ibb,.int .i64 inn,.slice none 0 0,.int .u8 7,.int .u8 0,.int .i64 id,.int .i64 rd,.int .i64 0,.int .i64 0,.slice none 0 0]):=⟨λW'=>(Kd.All.single (hKu W' )).append (Kd.All.single (hKs W'))⟩
        clear hKu hKs
        go_wp2_with (first
         |(at_builtin;refine appKs iIns Tryz.underlying92 rfl (.tmp 140) (.tmp 147) rfl rfl (HKp.o.bel (bA (bR _) (.cells #[.int .u8 1,.int .u8 iop,.int .i64 rd,.int .i64 ia,.int .i64 ibb,.int .i64 inn,.slice none 0 0,.int .u8 7,.int .u8 0,.int .i64 id,.int .i64 rd,.int .i64 0,.int .i64 0,.slice none 0 0] 91))) (show x+1≤(World.alloc _ _).heap.size by simp;omega) (q:=X21.heap.size) (ys:=[(⟨1,iop,rd,ia,ibb,inn,[]⟩:Ins),spillI id rd]) rfl (row_new' _ [.int .u8 1,.int .u8 iop,.int .i64 rd,.int .i64 ia,.int .i64 ibb,.int .i64 inn,.slice none 0 0,.int .u8 7,.int .u8 0,.int .i64 id,.int .i64 rd,.int .i64 0,.int .i64 0,.slice none 0 0] 91 _ (by simp)) (HAp.o _) (show (ys.length+2)*64≤140737488355328 by omega) ?_)
         |fail)
        intro v9 X9 hk9 hg9 hw9
        obtain⟨hvar9,hfin9⟩:=HS22.o.tail HO22.o hg9 hk9 HS21.o.ni.ok
        have hfin:=Hm hfin9
        have xv:X9.cell? ⟨x,0,none⟩=some (.slice AI ys.length cI):=cell_at hvar9
        have gx:=free_at hvar9 0
        have hxl:=hlt hvar9
        have HY9:Hd (nvL regs (yi.take (k+1)) L=ys++[(⟨1,iop,rd,ia,ibb,inn,[]⟩:Ins),spillI id rd]):=⟨by
         rw[HSt2.o.1]
         simp[nvI,fillsA,upTo]⟩
        have hylen:(ys++[(⟨1,iop,rd,ia,ibb,inn,[]⟩:Ins),spillI id rd]).length=ys.length+2:=by simp
        obtain⟨A9,c9,rfl,-,-,-⟩:=hk9.form
        rw[hylen] at hfin⊢
        clear hfin9 hvar9 hk9 hg9 hw9 hylen HKp HAp
        go_wp2_with fail
        go_roundw
        case rel=>exact⟨k+1,_,_,by omega,by go_num,hfin.o.2.1,by rw[HY9.o];exact hfin.o.1,hfin.o.2.2⟩
        case measure=>simp[intOf];omega
       ·skip
        obtain rfl:iargs=[]:=HOki.o.args0 (by dsimp only;omega)
        clear i0 hil
        obtain⟨i0,-,i2,i3,i4,-,i6⟩:=cC7 HS2.o.mi
        obtain⟨u0,u1,u2,u3,u4,u5,u6⟩:=cC7 HS2.o.mu
        have gu:=free_at HS2.o.mu
        have xv:X2.cell? ⟨x,0,none⟩=some (.slice AI ys.length cI):=cell_at HS2.o.ni.var
        have gx:=free_at HS2.o.ni.var 0
        have hil:=hlt HS2.o.mi
        have hul:=hlt HS2.o.mu
        have hxl:=hlt HS2.o.ni.var
        go_wp2_with fail
        refine rgn [.rd 0,.rd 1,.rd 2,.rd 3,.rd 4,.rd 5,.hv 6 [],.rd 7,.hv 8 []] (n:=184) rfl ?_
        iterate 6 (refine line_rd rfl (λK hK=>?_);go_simp;refine hK _ ?_;clear hK K)
        refine line_hv rfl ?_
        go_wp2_with fail
        clear i0 i2 i3 i4 i6 u0 u1 u2 u3 u4 u5 u6 gu xv gx hil hul hxl
        have HD21:=Hm (HS2.o.belN (bD (bR X2)))
        have HE21:=Hm (HO2.o.belN (bD (bR X2)))
        have hfl:=fill_any' x okI ys (.slice AI ys.length cI) nvNil rfl ia r (HFit.o.a) (by omega) (by omega) _ HD21.o.ni
        refine hfl.mono ?_
        rintro e X21 ⟨rfl,hf⟩
        obtain⟨vI21,hns,hso,hw21⟩:=HD21.o.fill hf
        have HO21:=Hm (HE21.o.above hso HD21.o.fillAbove)
        obtain⟨ys21,hys⟩:∃ z,z=ys++[fillI ia r]:=⟨_,rfl⟩
        rw[←hys] at hns
        have HY21:=Hm hys
        have hyl21:ys21.length≤41:=by rw[hys];simp;omega
        have HS21:=Hm hns
        obtain⟨AI21,cI21,rfl,-,-,-⟩:=hns.ni.inn.form
        clear hns hf hys hfl HD21 HE21
        clear hso hw21
        obtain⟨i0,-,i2,i3,i4,-,i6⟩:=cC7 HS21.o.mi
        obtain⟨u0,u1,u2,u3,u4,u5,u6⟩:=cC7 HS21.o.mu
        have gu:=free_at HS21.o.mu
        have xv:X21.cell? ⟨x,0,none⟩=some (.slice AI21 ys21.length cI21):=cell_at HS21.o.ni.var
        have gx:=free_at HS21.o.ni.var 0
        have hil:=hlt HS21.o.mi
        have hul:=hlt HS21.o.mu
        have hxl:=hlt HS21.o.ni.var
        go_wp2_with fail
        refine⟨?_,?_⟩
        ·exact trivial
        iterate 1 (refine line_rd rfl (λK hK=>?_);go_simp;refine hK _ ?_;clear hK K)
        refine line_hv rfl ?_
        go_wp2_with fail
        refine⟨?_,?_⟩
        ·exact trivial
        unfold Line
        go_wp2_with fail
        have HO22:=Hm (HO21.o.above (oC (F:=λb=>b=ui) (Only.refl X21 _) rfl 3 (.int .i64 r)) (λb e=>by omega))
        have HS22:Hd (NS (X21.setCell ⟨ui,3,none⟩ (.int .i64 r)) m x ii ui bc okI ys21 (.slice AI21 ys21.length cI21) nvNil [.int .u8 2,.int .u8 iop,.int .i64 id,.int .i64 ia,.int .i64 ibb,.int .i64 inn,.slice A2 ([]:List Int).length c2] [.int .u8 2,.int .u8 iop,.int .i64 id,.int .i64 r,.int .i64 ibb,.int .i64 inn,.slice A2 ([]:List Int).length c2]):=⟨HS21.o.setU 3 (.int .i64 r)⟩
        have HO23:=Hm (HO22.o.above (oC (F:=λb=>b=ui) (Only.refl (X21.setCell ⟨ui,3,none⟩ (.int .i64 r)) _) rfl 6 (.slice none 0 0)) (λb e=>by omega))
        have HS23:Hd (NS ((X21.setCell ⟨ui,3,none⟩ (.int .i64 r)).setCell ⟨ui,6,none⟩ (.slice none 0 0)) m x ii ui bc okI ys21 (.slice AI21 ys21.length cI21) nvNil [.int .u8 2,.int .u8 iop,.int .i64 id,.int .i64 ia,.int .i64 ibb,.int .i64 inn,.slice A2 ([]:List Int).length c2] [.int .u8 2,.int .u8 iop,.int .i64 id,.int .i64 r,.int .i64 ibb,.int .i64 inn,.slice none 0 0]):=⟨HS22.o.setU 6 (.slice none 0 0)⟩
        clear i0 i2 i3 i4 i6 u0 u1 u2 u3 u4 u5 u6 gu xv gx hil hul hxl
        generalize (X21.setCell ⟨ui,3,none⟩ (.int .i64 r)).setCell ⟨ui,6,none⟩ (.slice none 0 0)=X23 at HO23 HS23⊢
        obtain⟨i0,-,i2,i3,i4,-,i6⟩:=cC7 HS23.o.mi
        obtain⟨u0,u1,u2,u3,u4,u5,u6⟩:=cC7 HS23.o.mu
        have gu:=free_at HS23.o.mu
        have xv:X23.cell? ⟨x,0,none⟩=some (.slice AI21 ys21.length cI21):=cell_at HS23.o.ni.var
        have gx:=free_at HS23.o.ni.var 0
        have hil:=hlt HS23.o.mi
        have hul:=hlt HS23.o.mu
        have hxl:=hlt HS23.o.ni.var
        refine wp_loop_rounds 1 ?_
        rw[rounds_succ]
        have HKp:=Hm (HS23.o.ni.inn)
        have hKs:∀ W':World,kIns.K W' okI (spillI id r) [.int .u8 7,.int .u8 0,.int .i64 id,.int .i64 r,.int .i64 0,.int .i64 0,.slice none 0 0]:=λW'=>kIns_mk (i:=spillI id r) ⟨wf8.2 (by simp[spillI]),wf8.2 (by simp[spillI]),HFit.o.d,wf64.2 (by simp[spillI];omega),wf64.2 (by simp[spillI]),wf64.2 (by simp[spillI])⟩ (Kd.SK.nil 0 (Nat.zero_le _) none)
        have HAp:=Hm (λ(W':World)=>Kd.All.single (hKs W'))
        clear hKs
        go_wp2_with (first
         |(at_builtin;refine appKs iIns Tryz.underlying92 rfl (.tmp 116) (.tmp 122) rfl rfl (HKp.o.bel (bA (bR _) (.cells #[.int .u8 7,.int .u8 0,.int .i64 id,.int .i64 r,.int .i64 0,.int .i64 0,.slice none 0 0] 91))) (show x+1≤(World.alloc _ _).heap.size by simp;omega) (q:=X23.heap.size) (ys:=[spillI id r]) rfl (row_new' _ [.int .u8 7,.int .u8 0,.int .i64 id,.int .i64 r,.int .i64 0,.int .i64 0,.slice none 0 0] 91 _ (by simp)) (HAp.o _) (show (ys21.length+1)*64≤140737488355328 by omega) ?_)
         |fail)
        intro v9 X9 hk9 hg9 hw9
        obtain⟨hvar9,hfin9⟩:=HS23.o.tail HO23.o hg9 hk9 HS23.o.ni.ok
        have hfin:=Hm hfin9
        have xv:X9.cell? ⟨x,0,none⟩=some (.slice AI21 ys21.length cI21):=cell_at hvar9
        have gx:=free_at hvar9 0
        have hxl:=hlt hvar9
        have HY9:Hd (nvL regs (yi.take (k+1)) L=ys21++[spillI id r]):=⟨by
         rw[HSt2.o.1]
         rw[HY21.o];simp[nvI,fillsA,upTo]⟩
        have hylen:(ys21++[spillI id r]).length=ys21.length+1:=by simp
        obtain⟨A9,c9,rfl,-,-,-⟩:=hk9.form
        rw[hylen] at hfin⊢
        clear hfin9 hvar9 hk9 hg9 hw9 hylen HKp HAp
        go_wp2_with fail
        go_roundw
        case rel=>exact⟨k+1,_,_,by omega,by go_num,hfin.o.2.1,by rw[HY9.o];exact hfin.o.1,hfin.o.2.2⟩
        case measure=>simp[intOf];omega
       ·skip
        obtain rfl:iargs=[]:=HOki.o.args0 (by dsimp only;omega)
        clear i0 hil
        obtain⟨i0,-,i2,i3,i4,-,i6⟩:=cC7 HS2.o.mi
        obtain⟨u0,u1,u2,u3,u4,u5,u6⟩:=cC7 HS2.o.mu
        have gu:=free_at HS2.o.mu
        have xv:X2.cell? ⟨x,0,none⟩=some (.slice AI ys.length cI):=cell_at HS2.o.ni.var
        have gx:=free_at HS2.o.ni.var 0
        have hil:=hlt HS2.o.mi
        have hul:=hlt HS2.o.mu
        have hxl:=hlt HS2.o.ni.var
        go_wp2_with fail
        refine rgn [.rd 0,.rd 1,.rd 2,.rd 3,.rd 4,.rd 6,.rd 7,.rd 8,.rd 9,.rd 10,.rd 11,.hv 5 [6,7,8,9,10,11],.rd 13,.hv 12 [13],.hv 14 [],.rd 15,.hv 16 []] (n:=184) rfl ?_
        iterate 11 (refine line_rd rfl (λK hK=>?_);go_simp;refine hK _ ?_;clear hK K)
        refine line_hv rfl ?_
        go_wp2_with fail
        clear i0 i2 i3 i4 i6 u0 u1 u2 u3 u4 u5 u6 gu xv gx hil hul hxl
        have HD21:=Hm (HS2.o.belN (bD (bR X2)))
        have HE21:=Hm (HO2.o.belN (bD (bR X2)))
        have hfl:=fill_any' x okI ys (.slice AI ys.length cI) nvNil rfl ia r1 (HFit.o.a) (by omega) (by omega) _ HD21.o.ni
        refine hfl.mono ?_
        rintro e X21 ⟨rfl,hf⟩
        obtain⟨vI21,hns,hso,hw21⟩:=HD21.o.fill hf
        have HO21:=Hm (HE21.o.above hso HD21.o.fillAbove)
        obtain⟨ys21,hys⟩:∃ z,z=ys++[fillI ia r1]:=⟨_,rfl⟩
        rw[←hys] at hns
        have HY21:=Hm hys
        have hyl21:ys21.length≤41:=by rw[hys];simp;omega
        have HS21:=Hm hns
        obtain⟨AI21,cI21,rfl,-,-,-⟩:=hns.ni.inn.form
        clear hns hf hys hfl HD21 HE21
        clear hso hw21
        obtain⟨i0,-,i2,i3,i4,-,i6⟩:=cC7 HS21.o.mi
        obtain⟨u0,u1,u2,u3,u4,u5,u6⟩:=cC7 HS21.o.mu
        have gu:=free_at HS21.o.mu
        have xv:X21.cell? ⟨x,0,none⟩=some (.slice AI21 ys21.length cI21):=cell_at HS21.o.ni.var
        have gx:=free_at HS21.o.ni.var 0
        have hil:=hlt HS21.o.mi
        have hul:=hlt HS21.o.mu
        have hxl:=hlt HS21.o.ni.var
        go_wp2_with fail
        refine⟨?_,?_⟩
        ·simp only[Again,slotOf]
         go_simp
        iterate 1 (refine line_rd rfl (λK hK=>?_);go_simp;refine hK _ ?_;clear hK K)
        refine line_hv rfl ?_
        go_wp2_with fail
        clear i0 i2 i3 i4 i6 u0 u1 u2 u3 u4 u5 u6 gu xv gx hil hul hxl
        have HD22:=Hm HS21.o
        have HE22:=Hm HO21.o
        have hfl:=fill_any' x okI ys21 (.slice AI21 ys21.length cI21) nvNil rfl ibb r2 (HFit.o.b) (by omega) (by omega) _ HD22.o.ni
        refine hfl.mono ?_
        rintro e X22 ⟨rfl,hf⟩
        obtain⟨vI22,hns,hso,hw22⟩:=HD22.o.fill hf
        have HO22:=Hm (HE22.o.above hso HD22.o.fillAbove)
        obtain⟨ys22,hys⟩:∃ z,z=ys21++[fillI ibb r2]:=⟨_,rfl⟩
        rw[←hys] at hns
        have HY22:=Hm hys
        have hyl22:ys22.length≤42:=by rw[hys];simp;omega
        have HS22:=Hm hns
        obtain⟨AI22,cI22,rfl,-,-,-⟩:=hns.ni.inn.form
        clear hns hf hys hfl HD22 HE22
        clear hso hw22
        obtain⟨i0,-,i2,i3,i4,-,i6⟩:=cC7 HS22.o.mi
        obtain⟨u0,u1,u2,u3,u4,u5,u6⟩:=cC7 HS22.o.mu
        have gu:=free_at HS22.o.mu
        have xv:X22.cell? ⟨x,0,none⟩=some (.slice AI22 ys22.length cI22):=cell_at HS22.o.ni.var
        have gx:=free_at HS22.o.ni.var 0
        have hil:=hlt HS22.o.mi
        have hul:=hlt HS22.o.mu
        have hxl:=hlt HS22.o.ni.var
        go_wp2_with fail
        refine⟨?_,?_⟩
        ·simp only[Again,slotOf]
         go_simp
        refine line_hv rfl ?_
        go_wp2_with fail
        refine⟨?_,?_⟩
        ·exact trivial
        iterate 1 (refine line_rd rfl (λK hK=>?_);go_simp;refine hK _ ?_;clear hK K)
        refine line_hv rfl ?_
        go_wp2_with fail
        refine⟨?_,?_⟩
        ·exact trivial
        unfold Line
        go_wp2_with fail
        have HO23:=Hm (HO22.o.above (oC (F:=λb=>b=ui) (Only.refl X22 _) rfl 3 (.int .i64 r1)) (λb e=>by omega))
        have HS23:Hd (NS (X22.setCell ⟨ui,3,none⟩ (.int .i64 r1)) m x ii ui bc okI ys22 (.slice AI22 ys22.length cI22) nvNil [.int .u8 3,.int .u8 iop,.int .i64 id,.int .i64 ia,.int .i64 ibb,.int .i64 inn,.slice A2 ([]:List Int).length c2] [.int .u8 3,.int .u8 iop,.int .i64 id,.int .i64 r1,.int .i64 ibb,.int .i64 inn,.slice A2 ([]:List Int).length c2]):=⟨HS22.o.setU 3 (.int .i64 r1)⟩
        have HO24:=Hm (HO23.o.above (oC (F:=λb=>b=ui) (Only.refl (X22.setCell ⟨ui,3,none⟩ (.int .i64 r1)) _) rfl 4 (.int .i64 r2)) (λb e=>by omega))
        have HS24:Hd (NS ((X22.setCell ⟨ui,3,none⟩ (.int .i64 r1)).setCell ⟨ui,4,none⟩ (.int .i64 r2)) m x ii ui bc okI ys22 (.slice AI22 ys22.length cI22) nvNil [.int .u8 3,.int .u8 iop,.int .i64 id,.int .i64 ia,.int .i64 ibb,.int .i64 inn,.slice A2 ([]:List Int).length c2] [.int .u8 3,.int .u8 iop,.int .i64 id,.int .i64 r1,.int .i64 r2,.int .i64 inn,.slice A2 ([]:List Int).length c2]):=⟨HS23.o.setU 4 (.int .i64 r2)⟩
        have HO25:=Hm (HO24.o.above (oC (F:=λb=>b=ui) (Only.refl ((X22.setCell ⟨ui,3,none⟩ (.int .i64 r1)).setCell ⟨ui,4,none⟩ (.int .i64 r2)) _) rfl 6 (.slice none 0 0)) (λb e=>by omega))
        have HS25:Hd (NS (((X22.setCell ⟨ui,3,none⟩ (.int .i64 r1)).setCell ⟨ui,4,none⟩ (.int .i64 r2)).setCell ⟨ui,6,none⟩ (.slice none 0 0)) m x ii ui bc okI ys22 (.slice AI22 ys22.length cI22) nvNil [.int .u8 3,.int .u8 iop,.int .i64 id,.int .i64 ia,.int .i64 ibb,.int .i64 inn,.slice A2 ([]:List Int).length c2] [.int .u8 3,.int .u8 iop,.int .i64 id,.int .i64 r1,.int .i64 r2,.int .i64 inn,.slice none 0 0]):=⟨HS24.o.setU 6 (.slice none 0 0)⟩
        clear i0 i2 i3 i4 i6 u0 u1 u2 u3 u4 u5 u6 gu xv gx hil hul hxl
        generalize ((X22.setCell ⟨ui,3,none⟩ (.int .i64 r1)).setCell ⟨ui,4,none⟩ (.int .i64 r2)).setCell ⟨ui,6,none⟩ (.slice none 0 0)=X25 at HO25 HS25⊢
        obtain⟨i0,-,i2,i3,i4,-,i6⟩:=cC7 HS25.o.mi
        obtain⟨u0,u1,u2,u3,u4,u5,u6⟩:=cC7 HS25.o.mu
        have gu:=free_at HS25.o.mu
        have xv:X25.cell? ⟨x,0,none⟩=some (.slice AI22 ys22.length cI22):=cell_at HS25.o.ni.var
        have gx:=free_at HS25.o.ni.var 0
        have hil:=hlt HS25.o.mi
        have hul:=hlt HS25.o.mu
        have hxl:=hlt HS25.o.ni.var
        refine wp_loop_rounds 1 ?_
        rw[rounds_succ]
        have HO26:=Hm (HO25.o.above (oC (F:=λb=>b=ui) (Only.refl X25 _) rfl 2 (.int .i64 rd)) (λb e=>by omega))
        have HS26:Hd (NS (X25.setCell ⟨ui,2,none⟩ (.int .i64 rd)) m x ii ui bc okI ys22 (.slice AI22 ys22.length cI22) nvNil [.int .u8 3,.int .u8 iop,.int .i64 id,.int .i64 ia,.int .i64 ibb,.int .i64 inn,.slice A2 ([]:List Int).length c2] [.int .u8 3,.int .u8 iop,.int .i64 rd,.int .i64 r1,.int .i64 r2,.int .i64 inn,.slice none 0 0]):=⟨HS25.o.setU 2 (.int .i64 rd)⟩
        have HKp:=Hm (HS26.o.ni.inn)
        have hKu:∀ W':World,kIns.K W' okI (⟨3,iop,rd,r1,r2,inn,[]⟩:Ins) [.int .u8 3,.int .u8 iop,.int .i64 rd,.int .i64 r1,.int .i64 r2,.int .i64 inn,.slice none 0 0]:=λW'=>kIns_mk (i:=(⟨3,iop,rd,r1,r2,inn,[]⟩:Ins)) ⟨HFit.o.kind,HFit.o.op,wf64.2 (by dsimp only;omega),wf64.2 (by dsimp only;omega),wf64.2 (by dsimp only;omega),HFit.o.n⟩ (Kd.SK.nil 0 (Nat.zero_le _) none)
        have hKs:∀ W':World,kIns.K W' okI (spillI id rd) [.int .u8 7,.int .u8 0,.int .i64 id,.int .i64 rd,.int .i64 0,.int .i64 0,.slice none 0 0]:=λW'=>kIns_mk (i:=spillI id rd) ⟨wf8.2 (by simp[spillI]),wf8.2 (by simp[spillI]),HFit.o.d,wf64.2 (by simp[spillI];omega),wf64.2 (by simp[spillI]),wf64.2 (by simp[spillI])⟩ (Kd.SK.nil 0 (Nat.zero_le _) none)
        have HAp:Hd (∀ W':World,kIns.All W' okI [(⟨3,iop,rd,r1,r2,inn,[]⟩:Ins),spillI id rd] [.int .u8 3,.int .u8 iop,.int .i64 rd,.int .i64 r1,.int .i64 r2,.int .i64 inn,.slice none 0 0,.int .u8 7,.int .u8 0,.int .i64 id,.int .i64 rd,.int .i64 0,.int .i64 0,.slice none 0 0]):=⟨λW'=>(Kd.All.single (hKu W' )).append (Kd.All.single (hKs W'))⟩
        clear hKu hKs
        go_wp2_with (first
         |(at_builtin;refine appKs iIns Tryz.underlying92 rfl (.tmp 140) (.tmp 147) rfl rfl (HKp.o.bel (bA (bR _) (.cells #[.int .u8 3,.int .u8 iop,.int .i64 rd,.int .i64 r1,.int .i64 r2,.int .i64 inn,.slice none 0 0,.int .u8 7,.int .u8 0,.int .i64 id,.int .i64 rd,.int .i64 0,.int .i64 0,.slice none 0 0] 91))) (show x+1≤(World.alloc _ _).heap.size by simp;omega) (q:=X25.heap.size) (ys:=[(⟨3,iop,rd,r1,r2,inn,[]⟩:Ins),spillI id rd]) rfl (row_new' _ [.int .u8 3,.int .u8 iop,.int .i64 rd,.int .i64 r1,.int .i64 r2,.int .i64 inn,.slice none 0 0,.int .u8 7,.int .u8 0,.int .i64 id,.int .i64 rd,.int .i64 0,.int .i64 0,.slice none 0 0] 91 _ (by simp)) (HAp.o _) (show (ys22.length+2)*64≤140737488355328 by omega) ?_)
         |fail)
        intro v9 X9 hk9 hg9 hw9
        obtain⟨hvar9,hfin9⟩:=HS26.o.tail HO26.o hg9 hk9 HS25.o.ni.ok
        have hfin:=Hm hfin9
        have xv:X9.cell? ⟨x,0,none⟩=some (.slice AI22 ys22.length cI22):=cell_at hvar9
        have gx:=free_at hvar9 0
        have hxl:=hlt hvar9
        have HY9:Hd (nvL regs (yi.take (k+1)) L=ys22++[(⟨3,iop,rd,r1,r2,inn,[]⟩:Ins),spillI id rd]):=⟨by
         rw[HSt2.o.1]
         rw[HY22.o,HY21.o];simp[nvI,fillsA,upTo]⟩
        have hylen:(ys22++[(⟨3,iop,rd,r1,r2,inn,[]⟩:Ins),spillI id rd]).length=ys22.length+2:=by simp
        obtain⟨A9,c9,rfl,-,-,-⟩:=hk9.form
        rw[hylen] at hfin⊢
        clear hfin9 hvar9 hk9 hg9 hw9 hylen HKp HAp
        go_wp2_with fail
        go_roundw
        case rel=>exact⟨k+1,_,_,by omega,by go_num,hfin.o.2.1,by rw[HY9.o];exact hfin.o.1,hfin.o.2.2⟩
        case measure=>simp[intOf];omega
       ·skip
        obtain rfl:iargs=[]:=HOki.o.args0 (by dsimp only;omega)
        clear i0 hil
        obtain⟨i0,-,i2,i3,i4,-,i6⟩:=cC7 HS2.o.mi
        obtain⟨u0,u1,u2,u3,u4,u5,u6⟩:=cC7 HS2.o.mu
        have gu:=free_at HS2.o.mu
        have xv:X2.cell? ⟨x,0,none⟩=some (.slice AI ys.length cI):=cell_at HS2.o.ni.var
        have gx:=free_at HS2.o.ni.var 0
        have hil:=hlt HS2.o.mi
        have hul:=hlt HS2.o.mu
        have hxl:=hlt HS2.o.ni.var
        go_wp2_with fail
        refine rgn [.rd 0,.rd 1,.rd 2,.rd 3,.rd 4,.rd 5,.hv 6 [],.rd 7,.hv 8 []] (n:=184) rfl ?_
        iterate 6 (refine line_rd rfl (λK hK=>?_);go_simp;refine hK _ ?_;clear hK K)
        refine line_hv rfl ?_
        go_wp2_with fail
        clear i0 i2 i3 i4 i6 u0 u1 u2 u3 u4 u5 u6 gu xv gx hil hul hxl
        have HD21:=Hm (HS2.o.belN (bD (bR X2)))
        have HE21:=Hm (HO2.o.belN (bD (bR X2)))
        have hfl:=fill_any' x okI ys (.slice AI ys.length cI) nvNil rfl ia r (HFit.o.a) (by omega) (by omega) _ HD21.o.ni
        refine hfl.mono ?_
        rintro e X21 ⟨rfl,hf⟩
        obtain⟨vI21,hns,hso,hw21⟩:=HD21.o.fill hf
        have HO21:=Hm (HE21.o.above hso HD21.o.fillAbove)
        obtain⟨ys21,hys⟩:∃ z,z=ys++[fillI ia r]:=⟨_,rfl⟩
        rw[←hys] at hns
        have HY21:=Hm hys
        have hyl21:ys21.length≤41:=by rw[hys];simp;omega
        have HS21:=Hm hns
        obtain⟨AI21,cI21,rfl,-,-,-⟩:=hns.ni.inn.form
        clear hns hf hys hfl HD21 HE21
        clear hso hw21
        obtain⟨i0,-,i2,i3,i4,-,i6⟩:=cC7 HS21.o.mi
        obtain⟨u0,u1,u2,u3,u4,u5,u6⟩:=cC7 HS21.o.mu
        have gu:=free_at HS21.o.mu
        have xv:X21.cell? ⟨x,0,none⟩=some (.slice AI21 ys21.length cI21):=cell_at HS21.o.ni.var
        have gx:=free_at HS21.o.ni.var 0
        have hil:=hlt HS21.o.mi
        have hul:=hlt HS21.o.mu
        have hxl:=hlt HS21.o.ni.var
        go_wp2_with fail
        refine⟨?_,?_⟩
        ·exact trivial
        iterate 1 (refine line_rd rfl (λK hK=>?_);go_simp;refine hK _ ?_;clear hK K)
        refine line_hv rfl ?_
        go_wp2_with fail
        refine⟨?_,?_⟩
        ·exact trivial
        unfold Line
        go_wp2_with fail
        have HO22:=Hm (HO21.o.above (oC (F:=λb=>b=ui) (Only.refl X21 _) rfl 3 (.int .i64 r)) (λb e=>by omega))
        have HS22:Hd (NS (X21.setCell ⟨ui,3,none⟩ (.int .i64 r)) m x ii ui bc okI ys21 (.slice AI21 ys21.length cI21) nvNil [.int .u8 4,.int .u8 iop,.int .i64 id,.int .i64 ia,.int .i64 ibb,.int .i64 inn,.slice A2 ([]:List Int).length c2] [.int .u8 4,.int .u8 iop,.int .i64 id,.int .i64 r,.int .i64 ibb,.int .i64 inn,.slice A2 ([]:List Int).length c2]):=⟨HS21.o.setU 3 (.int .i64 r)⟩
        have HO23:=Hm (HO22.o.above (oC (F:=λb=>b=ui) (Only.refl (X21.setCell ⟨ui,3,none⟩ (.int .i64 r)) _) rfl 6 (.slice none 0 0)) (λb e=>by omega))
        have HS23:Hd (NS ((X21.setCell ⟨ui,3,none⟩ (.int .i64 r)).setCell ⟨ui,6,none⟩ (.slice none 0 0)) m x ii ui bc okI ys21 (.slice AI21 ys21.length cI21) nvNil [.int .u8 4,.int .u8 iop,.int .i64 id,.int .i64 ia,.int .i64 ibb,.int .i64 inn,.slice A2 ([]:List Int).length c2] [.int .u8 4,.int .u8 iop,.int .i64 id,.int .i64 r,.int .i64 ibb,.int .i64 inn,.slice none 0 0]):=⟨HS22.o.setU 6 (.slice none 0 0)⟩
        clear i0 i2 i3 i4 i6 u0 u1 u2 u3 u4 u5 u6 gu xv gx hil hul hxl
        generalize (X21.setCell ⟨ui,3,none⟩ (.int .i64 r)).setCell ⟨ui,6,none⟩ (.slice none 0 0)=X23 at HO23 HS23⊢
        obtain⟨i0,-,i2,i3,i4,-,i6⟩:=cC7 HS23.o.mi
        obtain⟨u0,u1,u2,u3,u4,u5,u6⟩:=cC7 HS23.o.mu
        have gu:=free_at HS23.o.mu
        have xv:X23.cell? ⟨x,0,none⟩=some (.slice AI21 ys21.length cI21):=cell_at HS23.o.ni.var
        have gx:=free_at HS23.o.ni.var 0
        have hil:=hlt HS23.o.mi
        have hul:=hlt HS23.o.mu
        have hxl:=hlt HS23.o.ni.var
        refine wp_loop_rounds 1 ?_
        rw[rounds_succ]
        have HO24:=Hm (HO23.o.above (oC (F:=λb=>b=ui) (Only.refl X23 _) rfl 2 (.int .i64 rd)) (λb e=>by omega))
        have HS24:Hd (NS (X23.setCell ⟨ui,2,none⟩ (.int .i64 rd)) m x ii ui bc okI ys21 (.slice AI21 ys21.length cI21) nvNil [.int .u8 4,.int .u8 iop,.int .i64 id,.int .i64 ia,.int .i64 ibb,.int .i64 inn,.slice A2 ([]:List Int).length c2] [.int .u8 4,.int .u8 iop,.int .i64 rd,.int .i64 r,.int .i64 ibb,.int .i64 inn,.slice none 0 0]):=⟨HS23.o.setU 2 (.int .i64 rd)⟩
        have HKp:=Hm (HS24.o.ni.inn)
        have hKu:∀ W':World,kIns.K W' okI (⟨4,iop,rd,r,ibb,inn,[]⟩:Ins) [.int .u8 4,.int .u8 iop,.int .i64 rd,.int .i64 r,.int .i64 ibb,.int .i64 inn,.slice none 0 0]:=λW'=>kIns_mk (i:=(⟨4,iop,rd,r,ibb,inn,[]⟩:Ins)) ⟨HFit.o.kind,HFit.o.op,wf64.2 (by dsimp only;omega),wf64.2 (by dsimp only;omega),HFit.o.b,HFit.o.n⟩ (Kd.SK.nil 0 (Nat.zero_le _) none)
        have hKs:∀ W':World,kIns.K W' okI (spillI id rd) [.int .u8 7,.int .u8 0,.int .i64 id,.int .i64 rd,.int .i64 0,.int .i64 0,.slice none 0 0]:=λW'=>kIns_mk (i:=spillI id rd) ⟨wf8.2 (by simp[spillI]),wf8.2 (by simp[spillI]),HFit.o.d,wf64.2 (by simp[spillI];omega),wf64.2 (by simp[spillI]),wf64.2 (by simp[spillI])⟩ (Kd.SK.nil 0 (Nat.zero_le _) none)
        have HAp:Hd (∀ W':World,kIns.All W' okI [(⟨4,iop,rd,r,ibb,inn,[]⟩:Ins),spillI id rd] [.int .u8 4,.int .u8 iop,.int .i64 rd,.int .i64 r,.int .i64 ibb,.int .i64 inn,.slice none 0 0,.int .u8 7,.int .u8 0,.int .i64 id,.int .i64 rd,.int .i64 0,.int .i64 0,.slice none 0 0]):=⟨λW'=>(Kd.All.single (hKu W' )).append (Kd.All.single (hKs W'))⟩
        clear hKu hKs
        go_wp2_with (first
         |(at_builtin;refine appKs iIns Tryz.underlying92 rfl (.tmp 140) (.tmp 147) rfl rfl (HKp.o.bel (bA (bR _) (.cells #[.int .u8 4,.int .u8 iop,.int .i64 rd,.int .i64 r,.int .i64 ibb,.int .i64 inn,.slice none 0 0,.int .u8 7,.int .u8 0,.int .i64 id,.int .i64 rd,.int .i64 0,.int .i64 0,.slice none 0 0] 91))) (show x+1≤(World.alloc _ _).heap.size by simp;omega) (q:=X23.heap.size) (ys:=[(⟨4,iop,rd,r,ibb,inn,[]⟩:Ins),spillI id rd]) rfl (row_new' _ [.int .u8 4,.int .u8 iop,.int .i64 rd,.int .i64 r,.int .i64 ibb,.int .i64 inn,.slice none 0 0,.int .u8 7,.int .u8 0,.int .i64 id,.int .i64 rd,.int .i64 0,.int .i64 0,.slice none 0 0] 91 _ (by simp)) (HAp.o _) (show (ys21.length+2)*64≤140737488355328 by omega) ?_)
         |fail)
        intro v9 X9 hk9 hg9 hw9
        obtain⟨hvar9,hfin9⟩:=HS24.o.tail HO24.o hg9 hk9 HS23.o.ni.ok
        have hfin:=Hm hfin9
        have xv:X9.cell? ⟨x,0,none⟩=some (.slice AI21 ys21.length cI21):=cell_at hvar9
        have gx:=free_at hvar9 0
        have hxl:=hlt hvar9
        have HY9:Hd (nvL regs (yi.take (k+1)) L=ys21++[(⟨4,iop,rd,r,ibb,inn,[]⟩:Ins),spillI id rd]):=⟨by
         rw[HSt2.o.1]
         rw[HY21.o];simp[nvI,fillsA,upTo]⟩
        have hylen:(ys21++[(⟨4,iop,rd,r,ibb,inn,[]⟩:Ins),spillI id rd]).length=ys21.length+2:=by simp
        obtain⟨A9,c9,rfl,-,-,-⟩:=hk9.form
        rw[hylen] at hfin⊢
        clear hfin9 hvar9 hk9 hg9 hw9 hylen HKp HAp
        go_wp2_with fail
        go_roundw
        case rel=>exact⟨k+1,_,_,by omega,by go_num,hfin.o.2.1,by rw[HY9.o];exact hfin.o.1,hfin.o.2.2⟩
        case measure=>simp[intOf];omega
       ·skip
        obtain rfl:iargs=[]:=HOki.o.args0 (by dsimp only;omega)
        clear i0 hil
        obtain⟨i0,-,i2,i3,i4,-,i6⟩:=cC7 HS2.o.mi
        obtain⟨u0,u1,u2,u3,u4,u5,u6⟩:=cC7 HS2.o.mu
        have gu:=free_at HS2.o.mu
        have xv:X2.cell? ⟨x,0,none⟩=some (.slice AI ys.length cI):=cell_at HS2.o.ni.var
        have gx:=free_at HS2.o.ni.var 0
        have hil:=hlt HS2.o.mi
        have hul:=hlt HS2.o.mu
        have hxl:=hlt HS2.o.ni.var
        go_wp2_with fail
        refine rgn [.rd 0,.rd 1,.rd 2,.rd 3,.rd 4,.rd 6,.rd 7,.rd 8,.rd 9,.rd 10,.rd 11,.hv 5 [6,7,8,9,10,11],.rd 13,.hv 12 [13],.hv 14 [],.rd 15,.hv 16 []] (n:=184) rfl ?_
        iterate 11 (refine line_rd rfl (λK hK=>?_);go_simp;refine hK _ ?_;clear hK K)
        refine line_hv rfl ?_
        go_wp2_with fail
        clear i0 i2 i3 i4 i6 u0 u1 u2 u3 u4 u5 u6 gu xv gx hil hul hxl
        have HD21:=Hm (HS2.o.belN (bD (bR X2)))
        have HE21:=Hm (HO2.o.belN (bD (bR X2)))
        have hfl:=fill_any' x okI ys (.slice AI ys.length cI) nvNil rfl ia r1 (HFit.o.a) (by omega) (by omega) _ HD21.o.ni
        refine hfl.mono ?_
        rintro e X21 ⟨rfl,hf⟩
        obtain⟨vI21,hns,hso,hw21⟩:=HD21.o.fill hf
        have HO21:=Hm (HE21.o.above hso HD21.o.fillAbove)
        obtain⟨ys21,hys⟩:∃ z,z=ys++[fillI ia r1]:=⟨_,rfl⟩
        rw[←hys] at hns
        have HY21:=Hm hys
        have hyl21:ys21.length≤41:=by rw[hys];simp;omega
        have HS21:=Hm hns
        obtain⟨AI21,cI21,rfl,-,-,-⟩:=hns.ni.inn.form
        clear hns hf hys hfl HD21 HE21
        clear hso hw21
        obtain⟨i0,-,i2,i3,i4,-,i6⟩:=cC7 HS21.o.mi
        obtain⟨u0,u1,u2,u3,u4,u5,u6⟩:=cC7 HS21.o.mu
        have gu:=free_at HS21.o.mu
        have xv:X21.cell? ⟨x,0,none⟩=some (.slice AI21 ys21.length cI21):=cell_at HS21.o.ni.var
        have gx:=free_at HS21.o.ni.var 0
        have hil:=hlt HS21.o.mi
        have hul:=hlt HS21.o.mu
        have hxl:=hlt HS21.o.ni.var
        go_wp2_with fail
        refine⟨?_,?_⟩
        ·simp only[Again,slotOf]
         go_simp
        iterate 1 (refine line_rd rfl (λK hK=>?_);go_simp;refine hK _ ?_;clear hK K)
        refine line_hv rfl ?_
        go_wp2_with fail
        clear i0 i2 i3 i4 i6 u0 u1 u2 u3 u4 u5 u6 gu xv gx hil hul hxl
        have HD22:=Hm HS21.o
        have HE22:=Hm HO21.o
        have hfl:=fill_any' x okI ys21 (.slice AI21 ys21.length cI21) nvNil rfl ibb r2 (HFit.o.b) (by omega) (by omega) _ HD22.o.ni
        refine hfl.mono ?_
        rintro e X22 ⟨rfl,hf⟩
        obtain⟨vI22,hns,hso,hw22⟩:=HD22.o.fill hf
        have HO22:=Hm (HE22.o.above hso HD22.o.fillAbove)
        obtain⟨ys22,hys⟩:∃ z,z=ys21++[fillI ibb r2]:=⟨_,rfl⟩
        rw[←hys] at hns
        have HY22:=Hm hys
        have hyl22:ys22.length≤42:=by rw[hys];simp;omega
        have HS22:=Hm hns
        obtain⟨AI22,cI22,rfl,-,-,-⟩:=hns.ni.inn.form
        clear hns hf hys hfl HD22 HE22
        clear hso hw22
        obtain⟨i0,-,i2,i3,i4,-,i6⟩:=cC7 HS22.o.mi
        obtain⟨u0,u1,u2,u3,u4,u5,u6⟩:=cC7 HS22.o.mu
        have gu:=free_at HS22.o.mu
        have xv:X22.cell? ⟨x,0,none⟩=some (.slice AI22 ys22.length cI22):=cell_at HS22.o.ni.var
        have gx:=free_at HS22.o.ni.var 0
        have hil:=hlt HS22.o.mi
        have hul:=hlt HS22.o.mu
        have hxl:=hlt HS22.o.ni.var
        go_wp2_with fail
        refine⟨?_,?_⟩
        ·simp only[Again,slotOf]
         go_simp
        refine line_hv rfl ?_
        go_wp2_with fail
        refine⟨?_,?_⟩
        ·exact trivial
        iterate 1 (refine line_rd rfl (λK hK=>?_);go_simp;refine hK _ ?_;clear hK K)
        refine line_hv rfl ?_
        go_wp2_with fail
        refine⟨?_,?_⟩
        ·exact trivial
        unfold Line
        go_wp2_with fail
        have HO23:=Hm (HO22.o.above (oC (F:=λb=>b=ui) (Only.refl X22 _) rfl 3 (.int .i64 r1)) (λb e=>by omega))
        have HS23:Hd (NS (X22.setCell ⟨ui,3,none⟩ (.int .i64 r1)) m x ii ui bc okI ys22 (.slice AI22 ys22.length cI22) nvNil [.int .u8 5,.int .u8 iop,.int .i64 id,.int .i64 ia,.int .i64 ibb,.int .i64 inn,.slice A2 ([]:List Int).length c2] [.int .u8 5,.int .u8 iop,.int .i64 id,.int .i64 r1,.int .i64 ibb,.int .i64 inn,.slice A2 ([]:List Int).length c2]):=⟨HS22.o.setU 3 (.int .i64 r1)⟩
        have HO24:=Hm (HO23.o.above (oC (F:=λb=>b=ui) (Only.refl (X22.setCell ⟨ui,3,none⟩ (.int .i64 r1)) _) rfl 4 (.int .i64 r2)) (λb e=>by omega))
        have HS24:Hd (NS ((X22.setCell ⟨ui,3,none⟩ (.int .i64 r1)).setCell ⟨ui,4,none⟩ (.int .i64 r2)) m x ii ui bc okI ys22 (.slice AI22 ys22.length cI22) nvNil [.int .u8 5,.int .u8 iop,.int .i64 id,.int .i64 ia,.int .i64 ibb,.int .i64 inn,.slice A2 ([]:List Int).length c2] [.int .u8 5,.int .u8 iop,.int .i64 id,.int .i64 r1,.int .i64 r2,.int .i64 inn,.slice A2 ([]:List Int).length c2]):=⟨HS23.o.setU 4 (.int .i64 r2)⟩
        have HO25:=Hm (HO24.o.above (oC (F:=λb=>b=ui) (Only.refl ((X22.setCell ⟨ui,3,none⟩ (.int .i64 r1)).setCell ⟨ui,4,none⟩ (.int .i64 r2)) _) rfl 6 (.slice none 0 0)) (λb e=>by omega))
        have HS25:Hd (NS (((X22.setCell ⟨ui,3,none⟩ (.int .i64 r1)).setCell ⟨ui,4,none⟩ (.int .i64 r2)).setCell ⟨ui,6,none⟩ (.slice none 0 0)) m x ii ui bc okI ys22 (.slice AI22 ys22.length cI22) nvNil [.int .u8 5,.int .u8 iop,.int .i64 id,.int .i64 ia,.int .i64 ibb,.int .i64 inn,.slice A2 ([]:List Int).length c2] [.int .u8 5,.int .u8 iop,.int .i64 id,.int .i64 r1,.int .i64 r2,.int .i64 inn,.slice none 0 0]):=⟨HS24.o.setU 6 (.slice none 0 0)⟩
        clear i0 i2 i3 i4 i6 u0 u1 u2 u3 u4 u5 u6 gu xv gx hil hul hxl
        generalize ((X22.setCell ⟨ui,3,none⟩ (.int .i64 r1)).setCell ⟨ui,4,none⟩ (.int .i64 r2)).setCell ⟨ui,6,none⟩ (.slice none 0 0)=X25 at HO25 HS25⊢
        obtain⟨i0,-,i2,i3,i4,-,i6⟩:=cC7 HS25.o.mi
        obtain⟨u0,u1,u2,u3,u4,u5,u6⟩:=cC7 HS25.o.mu
        have gu:=free_at HS25.o.mu
        have xv:X25.cell? ⟨x,0,none⟩=some (.slice AI22 ys22.length cI22):=cell_at HS25.o.ni.var
        have gx:=free_at HS25.o.ni.var 0
        have hil:=hlt HS25.o.mi
        have hul:=hlt HS25.o.mu
        have hxl:=hlt HS25.o.ni.var
        refine wp_loop_rounds 1 ?_
        rw[rounds_succ]
        have HKp:=Hm (HS25.o.ni.inn)
        have hKu:∀ W':World,kIns.K W' okI (⟨5,iop,id,r1,r2,inn,[]⟩:Ins) [.int .u8 5,.int .u8 iop,.int .i64 id,.int .i64 r1,.int .i64 r2,.int .i64 inn,.slice none 0 0]:=λW'=>kIns_mk (i:=(⟨5,iop,id,r1,r2,inn,[]⟩:Ins)) ⟨HFit.o.kind,HFit.o.op,HFit.o.d,wf64.2 (by dsimp only;omega),wf64.2 (by dsimp only;omega),HFit.o.n⟩ (Kd.SK.nil 0 (Nat.zero_le _) none)
        have HAp:=Hm (λ(W':World)=>Kd.All.single (hKu W'))
        clear hKu
        go_wp2_with (first
         |(at_builtin;refine appKs iIns Tryz.underlying92 rfl (.tmp 129) (.tmp 131) rfl rfl (HKp.o.bel (bA (bR _) (.cells #[.int .u8 5,.int .u8 iop,.int .i64 id,.int .i64 r1,.int .i64 r2,.int .i64 inn,.slice none 0 0] 91))) (show x+1≤(World.alloc _ _).heap.size by simp;omega) (q:=X25.heap.size) (ys:=[(⟨5,iop,id,r1,r2,inn,[]⟩:Ins)]) rfl (row_new' _ [.int .u8 5,.int .u8 iop,.int .i64 id,.int .i64 r1,.int .i64 r2,.int .i64 inn,.slice none 0 0] 91 _ (by simp)) (HAp.o _) (show (ys22.length+1)*64≤140737488355328 by omega) ?_)
         |fail)
        intro v9 X9 hk9 hg9 hw9
        obtain⟨hvar9,hfin9⟩:=HS25.o.tail HO25.o hg9 hk9 HS25.o.ni.ok
        have hfin:=Hm hfin9
        have xv:X9.cell? ⟨x,0,none⟩=some (.slice AI22 ys22.length cI22):=cell_at hvar9
        have gx:=free_at hvar9 0
        have hxl:=hlt hvar9
        have HY9:Hd (nvL regs (yi.take (k+1)) L=ys22++[(⟨5,iop,id,r1,r2,inn,[]⟩:Ins)]):=⟨by
         rw[HSt2.o.1]
         rw[HY22.o,HY21.o];simp[nvI,fillsA,upTo]⟩
        have hylen:(ys22++[(⟨5,iop,id,r1,r2,inn,[]⟩:Ins)]).length=ys22.length+1:=by simp
        obtain⟨A9,c9,rfl,-,-,-⟩:=hk9.form
        rw[hylen] at hfin⊢
        clear hfin9 hvar9 hk9 hg9 hw9 hylen HKp HAp
        go_wp2_with fail
        go_roundw
        case rel=>exact⟨k+1,_,_,by omega,by go_num,hfin.o.2.1,by rw[HY9.o];exact hfin.o.1,hfin.o.2.2⟩
        case measure=>simp[intOf];omega
       ·skip
        clear i0 hil
        obtain⟨i0,-,i2,i3,i4,-,i6⟩:=cC7 HS2.o.mi
        obtain⟨u0,u1,u2,u3,u4,u5,u6⟩:=cC7 HS2.o.mu
        have gu:=free_at HS2.o.mu
        have xv:X2.cell? ⟨x,0,none⟩=some (.slice AI ys.length cI):=cell_at HS2.o.ni.var
        have gx:=free_at HS2.o.ni.var 0
        have hil:=hlt HS2.o.mi
        have hul:=hlt HS2.o.mu
        have hxl:=hlt HS2.o.ni.var
        go_wp2_with fail
        have HO21:=Hm (HO2.o.above (oC (F:=λb=>b=ui) (Only.refl X2 _) rfl 6 (.slice none 0 0)) (λb e=>by omega))
        have HS21:Hd (NS (X2.setCell ⟨ui,6,none⟩ (.slice none 0 0)) m x ii ui bc okI ys (.slice AI ys.length cI) nvNil [.int .u8 6,.int .u8 iop,.int .i64 id,.int .i64 ia,.int .i64 ibb,.int .i64 inn,.slice A2 iargs.length c2] [.int .u8 6,.int .u8 iop,.int .i64 id,.int .i64 ia,.int .i64 ibb,.int .i64 inn,.slice none 0 0]):=⟨HS2.o.setU 6 (.slice none 0 0)⟩
        clear i0 i2 i3 i4 i6 u0 u1 u2 u3 u4 u5 u6 gu xv gx hil hul hxl
        generalize X2.setCell ⟨ui,6,none⟩ (.slice none 0 0)=X21 at HO21 HS21⊢
        obtain⟨AS,cS,eS,-,-,hInts,hWfs,-⟩:=ski HSa.o
        simp only[Value.slice.injEq] at eS
        obtain⟨rfl,-,rfl⟩:=eS
        have ha3:=HOki.o.args3
        dsimp only at ha3
        have HAr:=Hm (And.intro hInts hWfs)
        clear hInts hWfs
        go_loopw [97] (λi wr=>ArgN w p q c (L.drop (k+1)) pr V regs (.slice A6 V c6) ok xs (.slice Av j cv) okc cs (.slice Ac j cc) m x ii ui bc okI ys [.int .u8 6,.int .u8 iop,.int .i64 id,.int .i64 ia,.int .i64 ibb,.int .i64 inn,.slice A2 iargs.length c2] [.int .u8 6,.int .u8 iop,.int .i64 id,.int .i64 ia,.int .i64 ibb,.int .i64 inn] iargs i wr) (λi _=>iargs.length-(intOf i).toNat)
        case atStart=>exact⟨0,_,_,Nat.zero_le _,rfl,HO21.o,by simpa [fillsA] using HS21.o,own_none _ _ _ _ 0 rfl,λb hb=>by simp[Value.ownBlock] at hb⟩
        case round =>
         obtain⟨t,vI,va,ht,rfl,hno,hns,hown,hsep⟩:=hrel
         have HOa:=Hm hno
         have HWn:=Hm hown
         have HSep:=Hm hsep
         obtain⟨AIt,cIt,rfl,-,-,-⟩:=hns.ni.inn.form
         obtain⟨Aa,ca2,rfl,-,-,-,-,-⟩:=own_row hown
         have hfl2:(fillsA 0 (iargs.take t)).length=(iargs.take t).length:=fillsA_len _ _
         have hylt:(ys++fillsA 0 (iargs.take t)).length≤44:=by rw[List.length_append,hfl2];simp;omega
         have HSA:=Hm hns
         rw[upTo_len] at HSA HWn HSep
         clear hno hns hown hsep HO21 HS21
         by_cases htt:t < iargs.length
         ·have hfs:ys++fillsA 0 (iargs.take (t+1))=(ys++fillsA 0 (iargs.take t))++[fillI iargs[t] t]:=by
           rw[take_snoc' iargs t htt,fillsA_snoc,show (iargs.take t).length=t by simp;omega,Nat.zero_add,List.append_assoc]
          obtain⟨bq,oq,eq,hxq⟩:=HAr.o.1 t (by simpa using htt)
          subst eq
          simp only[List.getElem_map] at hxq
          replace hxq:=bCell HOa.o.bel hxq
          have hwf:=HAr.o.2 _ (List.getElem_mem htt)
          have HFs:=Hm hfs
          clear hfs hfl2
          generalize iargs[t]=aa at *
          generalize ys++fillsA 0 (iargs.take t)=yt at *
          obtain⟨i0,-,i2,i3,i4,-,i6⟩:=cC7 HSA.o.mi
          obtain⟨u0,u1,u2,u3,u4,u5,u6⟩:=cC7 HSA.o.mu
          have gu:=free_at HSA.o.mu
          have xv:wr.cell? ⟨x,0,none⟩=some (.slice AIt yt.length cIt):=cell_at HSA.o.ni.var
          have gx:=free_at HSA.o.ni.var 0
          have hil:=hlt HSA.o.mi
          have hul:=hlt HSA.o.mu
          have hxl:=hlt HSA.o.ni.var
          go_wp2_with fail
          refine rgn [.rd 0,.rd 1,.rd 2,.rd 3,.rd 4,.hv 5 [0,1],.hv 6 [0,1],.hv 7 [],.rd 8,.hv 9 []] (n:=184) rfl ?_
          iterate 5 (refine line_rd rfl (λK hK=>?_);go_simp;refine hK _ ?_;clear hK K)
          refine line_hv rfl ?_
          go_wp2_with fail
          clear i0 i2 i3 i4 i6 u0 u1 u2 u3 u4 u5 u6 gu xv gx hil hul hxl
          have HD22:=Hm (HSA.o.belN (bD (bR wr)))
          have HE22:=Hm (HOa.o.belN (bD (bR wr)))
          have hfl:=fill_any' x okI yt (.slice AIt yt.length cIt) nvNil rfl aa t (hwf) (by omega) (by omega) _ HD22.o.ni
          refine hfl.mono ?_
          rintro e X22 ⟨rfl,hf⟩
          obtain⟨vI22,hns,hso,hw22⟩:=HD22.o.fill hf
          have HO22:=Hm (HE22.o.above hso HD22.o.fillAbove)
          obtain⟨ys22,hys⟩:∃ z,z=yt++[fillI aa t]:=⟨_,rfl⟩
          rw[←hys] at hns
          have HY22:=Hm hys
          have hyl22:ys22.length≤45:=by rw[hys];simp;omega
          have HS22:=Hm hns
          obtain⟨AI22,cI22,rfl,-,-,-⟩:=hns.ni.inn.form
          clear hns hf hys hfl HD22 HE22
          obtain⟨i0,-,i2,i3,i4,-,i6⟩:=cC7 HS22.o.mi
          obtain⟨u0,u1,u2,u3,u4,u5,u6⟩:=cC7 HS22.o.mu
          have gu:=free_at HS22.o.mu
          have xv:X22.cell? ⟨x,0,none⟩=some (.slice AI22 ys22.length cI22):=cell_at HS22.o.ni.var
          have gx:=free_at HS22.o.ni.var 0
          have hil:=hlt HS22.o.mi
          have hul:=hlt HS22.o.mu
          have hxl:=hlt HS22.o.ni.var
          go_wp2_with fail
          refine⟨?_,?_⟩
          ·simp only[Again,slotOf]
           go_simp
          refine line_hv rfl ?_
          go_wp2_with fail
          refine⟨?_,?_⟩
          ·simp only[Again,slotOf]
           go_simp
          refine line_hv rfl ?_
          have hwz:(Value.slice Aa t ca2).ownBlock=none∨∃ g,(Value.slice Aa t ca2).ownBlock=some g∧ui < g∧g < wr.heap.size:=by
           cases hg:(Value.slice Aa t ca2).ownBlock with
           |none=>exact .inl rfl
           |some g=>exact .inr ⟨g,rfl,by have:=HWn.o.lt g hg;omega⟩
          have hoz:wr.heap.size≤X22.heap.size:=hso.size
          have hsep4:∀ b,(Value.slice Aa t ca2).ownBlock=some b→(Value.slice AI22 ys22.length cI22).ownBlock≠some b∧¬okI b:=λb hb=>⟨λe=>by
           rcases hw22 with hw|⟨g,hg,hgs⟩
           ·exact(HSep.o b hb).1 (hw ▸ e)
           ·have h9:=(HWn.o.lt b hb).2
            rw[e] at hg;cases hg
            have h8:wr.heap.size≤b:=hgs
            omega,(HSep.o b hb).2⟩
          have hown4:OwnI X22 (ui+1) (.slice Aa t ca2) (upTo t):=own_only HWn.o (Only.belLeft (bD (bR wr)) hso) (λb hb e=>by
           rcases e with e|e
           ·have:=(HWn.o.lt b hb).1;omega
           ·exact(HSep.o b hb).1 e)
          have hown5:(X22.alloc (.cells #[.int .i64 t] 3)).ownsRow (ui+1) 3 1 (.slice Aa t ca2) t ((upTo t).map (Value.int .i64)):=by
           have:=own_below hown4 (bA (bR X22) (.cells #[.int .i64 t] 3))
           rwa [upTo_len] at this
          have HW5:=Hm (And.intro hown4 (And.intro hsep4 hwz))
          have HOw5:=Hm hown5
          have hiuz:ui+1≤(X22.alloc (.cells #[.int .i64 t] 3)).heap.size:=by simp;omega
          clear hso hw22 hwz hsep4 hown4 hown5
          refine appW iInt Tryz.underlying29 rfl (.tmp 103) (.tmp 108) rfl rfl HOw5.o hiuz (q:=X22.heap.size) (m:=1) (c:=1) (news:=[.int .i64 t]) rfl (row_new' _ [.int .i64 t] 3 _ rfl) rfl (by intro u hu;simp at hu;subst hu;rfl) (by omega) ?_
          intro v9 X9 ho9 hg9 hw9
          have ho9':OwnI X9 (ui+1) v9 (upTo (t+1)):=by
           unfold OwnI
           rw[upTo_snoc,List.map_append,List.length_append,upTo_len]
           exact ho9
          have hO9:Only X22 X9 (λb=>(Value.slice Aa t ca2).ownBlock=some b):=Only.belLeft (bA (bR X22) _) (Only.grown (F:=λb=>(Value.slice Aa t ca2).ownBlock=some b) hg9 (λg e=>e))
          have HS9:=Hm (HS22.o.onlyG hO9 (λb e=>⟨by have:=(HW5.o.1.lt b e).1;omega,HW5.o.2.1 b e⟩))
          have HO9:=Hm (HO22.o.above hO9 (λb e=>by have:=(HW5.o.1.lt b e).1;have:=HS22.o.mx;omega))
          obtain⟨A9,c9,rfl,-,-,-,-,-⟩:=own_row ho9'
          rw[upTo_len] at ho9' hw9⊢
          have hsep9:∀ b,(Value.slice A9 (t+1) c9).ownBlock=some b→(Value.slice AI22 ys22.length cI22).ownBlock≠some b∧¬okI b:=λb hb=>by
           rcases hw9 with hw|hw
           ·exact HW5.o.2.1 b (hw ▸ hb)
           ·rw[hw] at hb
            have hbb:X22.heap.size≤b:=by simp at hb;omega
            exact⟨λe=>by have:=(HS22.o.ni.own e).2;omega,λe=>by have:=HS22.o.ni.inn.lt b e;omega⟩
          have HW9:=Hm (And.intro ho9' hsep9)
          clear hg9 ho9 hO9 hw9 ho9' hsep9 hoz HOw5 hiuz
          clear i0 i2 i3 i4 i6 u0 u1 u2 u3 u4 u5 u6 gu xv gx hil hul hxl
          obtain⟨i0,-,i2,i3,i4,-,i6⟩:=cC7 HS9.o.mi
          obtain⟨u0,u1,u2,u3,u4,u5,u6⟩:=cC7 HS9.o.mu
          have gu:=free_at HS9.o.mu
          have xv:X9.cell? ⟨x,0,none⟩=some (.slice AI22 ys22.length cI22):=cell_at HS9.o.ni.var
          have gx:=free_at HS9.o.ni.var 0
          have hil:=hlt HS9.o.mi
          have hul:=hlt HS9.o.mu
          have hxl:=hlt HS9.o.ni.var
          go_wp2_with fail
          refine⟨?_,?_⟩
          ·exact trivial
          iterate 1 (refine line_rd rfl (λK hK=>?_);go_simp;refine hK _ ?_;clear hK K)
          refine line_hv rfl ?_
          go_wp2_with fail
          refine⟨?_,?_⟩
          ·exact trivial
          unfold Line
          go_wp2_with fail
          have HO23:=Hm (HO9.o.above (oC (F:=λb=>b=ui) (Only.refl X9 _) rfl 6 (.slice A9 (t+1) c9)) (λb e=>by omega))
          have HS23:Hd (NS (X9.setCell ⟨ui,6,none⟩ (.slice A9 (t+1) c9)) m x ii ui bc okI ys22 (.slice AI22 ys22.length cI22) nvNil [.int .u8 6,.int .u8 iop,.int .i64 id,.int .i64 ia,.int .i64 ibb,.int .i64 inn,.slice (some ⟨bq,oq,none⟩) iargs.length c2] [.int .u8 6,.int .u8 iop,.int .i64 id,.int .i64 ia,.int .i64 ibb,.int .i64 inn,.slice A9 (t+1) c9]):=⟨HS9.o.setU 6 (.slice A9 (t+1) c9)⟩
          have HW10:Hd (OwnI (X9.setCell ⟨ui,6,none⟩ (.slice A9 (t+1) c9)) (ui+1) (.slice A9 (t+1) c9) (upTo (t+1))):=⟨own_only HW9.o.1 (oC (F:=λb=>b=ui) (Only.refl X9 _) rfl 6 (.slice A9 (t+1) c9)) (λb hb e=>by have:=(HW9.o.1.lt b hb).1;omega)⟩
          go_roundw
          case rel=>exact⟨t+1,_,_,by omega,by go_num,HO23.o,by rw[HFs.o,←HY22.o];exact HS23.o,HW10.o,HW9.o.2⟩
          case measure=>simp[intOf];omega
         ·obtain rfl:t=iargs.length:=by omega
          rw[List.take_length] at *
          clear hfl2
          have hyt:ys++fillsA 0 iargs=ys++fillsA 0 iargs:=rfl
          obtain⟨yt,hyt⟩:∃ z,z=ys++fillsA 0 iargs:=⟨_,rfl⟩
          rw[←hyt] at hylt HSA HSep
          have HYt:=Hm hyt
          clear hyt
          obtain⟨okJ,hJ⟩:∃ okJ:Nat→Prop,okJ=λb=>okI b∨(Value.slice Aa iargs.length ca2).ownBlock=some b:=⟨_,rfl⟩
          have hJ1:∀ b,okJ b→okI b∨(Value.slice Aa iargs.length ca2).ownBlock=some b:=by rw[hJ];exact λb h=>h
          have hJ2:∀ b,okI b→okJ b:=by rw[hJ];exact λb h=>.inl h
          have hJ3:∀ b,(Value.slice Aa iargs.length ca2).ownBlock=some b→okJ b:=by rw[hJ];exact λb h=>.inr h
          clear hJ
          have hJu:∀ b,okJ b→¬b=ui:=λb hb=>by
           rcases hJ1 b hb with hb|hb
           ·exact(HSA.o.okI_ b hb).2
           ·have:=(HWn.o.lt b hb).1;omega
          have hJx:∀ b,okJ b→x < b:=λb hb=>by
           rcases hJ1 b hb with hb|hb
           ·exact HSA.o.ni.ok b hb
           ·have:=(HWn.o.lt b hb).1;omega
          have hJo:∀ b,okJ b→some b≠(Value.slice AIt yt.length cIt).ownBlock:=λb hb e=>by
           rcases hJ1 b hb with hb|hb
           ·exact HSA.o.ni.inn.apart b hb e
           ·exact(HSep.o b hb).1 e.symm
          have hJl:∀ b,okJ b→b < wr.heap.size:=λb hb=>by
           rcases hJ1 b hb with hb|hb
           ·exact HSA.o.ni.inn.lt b hb
           ·exact(HWn.o.lt b hb).2
          have HJ:=Hm (And.intro hJ2 (And.intro hJ3 (And.intro hJu (And.intro hJx (And.intro hJo hJl)))))
          clear hJ1 hJ2 hJ3 hJu hJx hJo hJl
          obtain⟨i0,-,i2,i3,i4,-,i6⟩:=cC7 HSA.o.mi
          obtain⟨u0,u1,u2,u3,u4,u5,u6⟩:=cC7 HSA.o.mu
          have gu:=free_at HSA.o.mu
          have xv:wr.cell? ⟨x,0,none⟩=some (.slice AIt yt.length cIt):=cell_at HSA.o.ni.var
          have gx:=free_at HSA.o.ni.var 0
          have hil:=hlt HSA.o.mi
          have hul:=hlt HSA.o.mu
          have hxl:=hlt HSA.o.ni.var
          have HO24:=Hm (HOa.o.above (oC (F:=λb=>b=ui) (Only.refl wr _) rfl 2 (.int .i64 rd)) (λb e=>by omega))
          have HS24:Hd (NS (wr.setCell ⟨ui,2,none⟩ (.int .i64 rd)) m x ii ui bc okI yt (.slice AIt yt.length cIt) nvNil [.int .u8 6,.int .u8 iop,.int .i64 id,.int .i64 ia,.int .i64 ibb,.int .i64 inn,.slice A2 iargs.length c2] [.int .u8 6,.int .u8 iop,.int .i64 rd,.int .i64 ia,.int .i64 ibb,.int .i64 inn,.slice Aa iargs.length ca2]):=⟨HSA.o.setU 2 (.int .i64 rd)⟩
          have HKp:=Hm (HS24.o.ni.inn.more (ok':=okJ) HJ.o.1 HJ.o.2.2.2.2.1 (λb hb=>by have:=HJ.o.2.2.2.2.2 b hb;simp;omega))
          have hKu:∀ W':World,Stays wr W' okJ okJ→kIns.K W' okJ (⟨6,iop,rd,ia,ibb,inn,(upTo iargs.length)⟩:Ins) [.int .u8 6,.int .u8 iop,.int .i64 rd,.int .i64 ia,.int .i64 ibb,.int .i64 inn,.slice Aa iargs.length ca2]:=λW' hb=>kIns_mk (i:=(⟨6,iop,rd,ia,ibb,inn,(upTo iargs.length)⟩:Ins)) ⟨HFit.o.kind,HFit.o.op,wf64.2 (by dsimp only;omega),HFit.o.a,HFit.o.b,HFit.o.n⟩ (((ski_own HWn.o (λy hy=>wf64.2 (by have:=upTo_mem hy;omega))).stay (Stays.weaken (λb hb=>HJ.o.2.1 b hb.symm))).stay hb)
          have hKs:∀ W':World,kIns.K W' okJ (spillI id rd) [.int .u8 7,.int .u8 0,.int .i64 id,.int .i64 rd,.int .i64 0,.int .i64 0,.slice none 0 0]:=λW'=>kIns_mk (i:=spillI id rd) ⟨wf8.2 (by simp[spillI]),wf8.2 (by simp[spillI]),HFit.o.d,wf64.2 (by simp[spillI];omega),wf64.2 (by simp[spillI]),wf64.2 (by simp[spillI])⟩ (Kd.SK.nil 0 (Nat.zero_le _) none)
          have HAp:Hd (∀ W':World,Stays wr W' okJ okJ→kIns.All W' okJ [(⟨6,iop,rd,ia,ibb,inn,(upTo iargs.length)⟩:Ins),spillI id rd] [.int .u8 6,.int .u8 iop,.int .i64 rd,.int .i64 ia,.int .i64 ibb,.int .i64 inn,.slice Aa iargs.length ca2,.int .u8 7,.int .u8 0,.int .i64 id,.int .i64 rd,.int .i64 0,.int .i64 0,.slice none 0 0]):=⟨λW' hb=>(Kd.All.single (hKu W' hb)).append (Kd.All.single (hKs W'))⟩
          clear hKu hKs
          go_wp2_with (first
           |(at_builtin;refine appKs iIns Tryz.underlying92 rfl (.tmp 140) (.tmp 147) rfl rfl (HKp.o.bel (bA (bR _) (.cells #[.int .u8 6,.int .u8 iop,.int .i64 rd,.int .i64 ia,.int .i64 ibb,.int .i64 inn,.slice Aa iargs.length ca2,.int .u8 7,.int .u8 0,.int .i64 id,.int .i64 rd,.int .i64 0,.int .i64 0,.slice none 0 0] 91))) (show x+1≤(World.alloc _ _).heap.size by simp;omega) (q:=wr.heap.size) (ys:=[(⟨6,iop,rd,ia,ibb,inn,(upTo iargs.length)⟩:Ins),spillI id rd]) rfl (row_new' _ [.int .u8 6,.int .u8 iop,.int .i64 rd,.int .i64 ia,.int .i64 ibb,.int .i64 inn,.slice Aa iargs.length ca2,.int .u8 7,.int .u8 0,.int .i64 id,.int .i64 rd,.int .i64 0,.int .i64 0,.slice none 0 0] 91 _ (by simp)) (HAp.o _ ((oA (oC (F:=λb=>b=ui) (Only.refl wr _) rfl 2 (.int .i64 rd)) _).stays HJ.o.2.2.1)) (show (yt.length+2)*64≤140737488355328 by omega) ?_)
           |fail)
          intro v9 X9 hk9 hg9 hw9
          obtain⟨hvar9,hfin9⟩:=HS24.o.tail HO24.o hg9 hk9 HJ.o.2.2.2.1
          have hfin:=Hm hfin9
          have xv:X9.cell? ⟨x,0,none⟩=some (.slice AIt yt.length cIt):=cell_at hvar9
          have gx:=free_at hvar9 0
          have hxl:=hlt hvar9
          have HY9:Hd (nvL regs (yi.take (k+1)) L=yt++[(⟨6,iop,rd,ia,ibb,inn,(upTo iargs.length)⟩:Ins),spillI id rd]):=⟨by
           rw[HSt2.o.1]
           rw[HYt.o];simp[nvI]⟩
          have hylen:(yt++[(⟨6,iop,rd,ia,ibb,inn,(upTo iargs.length)⟩:Ins),spillI id rd]).length=yt.length+2:=by simp
          obtain⟨A9,c9,rfl,-,-,-⟩:=hk9.form
          rw[hylen] at hfin⊢
          clear hfin9 hvar9 hk9 hg9 hw9 hylen HKp HAp
          go_wp2_with fail
          go_roundw
          case rel=>exact⟨k+1,_,_,by omega,by go_num,hfin.o.2.1,by rw[HY9.o];exact hfin.o.1,hfin.o.2.2⟩
          case measure=>simp[intOf];omega
      ·obtain rfl:k=yi.length:=by omega
       rw[List.take_length] at HI
       generalize hyss:nvL regs yi L=ys at *
       have HYs:=Hm hyss
       clear hyss
       have HBl:=HBc.o
       have xvar:=HI.o.var
       unfold nvNil at xvar
       have hm1:=HMb.o
       rw[HBl] at hm1
       obtain⟨-,m1,m2,m3,m4⟩:=cC5 hm1
       have hmz:=hlt hm1
       obtain⟨x0,x1,x2,x3,x4⟩:=cC5 xvar
       obtain⟨-,y1,y2,y3,y4⟩:=fF5 xvar
       have hxz:=hlt xvar
       have c3:wr.cell? ⟨c,3,none⟩=some (.slice Av j cv):=cell_at HO.o.cd
       have hcm:c < m:=HO.o.cm
       have hcz:c < wr.heap.size:=hlt HO.o.cd
       have HI4:Hd (NI ((((wr.setCell ⟨x,1,none⟩ (.int .u8 yk)).setCell ⟨x,2,none⟩ (.int .i64 ya)).setCell ⟨x,3,none⟩ (.int .i64 yt)).setCell ⟨x,4,none⟩ (.int .i64 ye)) x okI ys (.slice AI ys.length cI) [.int .u8 yk,.int .i64 ya,.int .i64 yt,.int .i64 ye]):=⟨(((HI.o.put 0 (.int .u8 yk)).put 1 (.int .i64 ya)).put 2 (.int .i64 yt)).put 3 (.int .i64 ye)⟩
       have hOx:Only wr ((((wr.setCell ⟨x,1,none⟩ (.int .u8 yk)).setCell ⟨x,2,none⟩ (.int .i64 ya)).setCell ⟨x,3,none⟩ (.int .i64 yt)).setCell ⟨x,4,none⟩ (.int .i64 ye)) (λb=>b=x):=oC (oC (oC (oC (F:=λb=>b=x) (Only.refl wr _) rfl 1 (.int .u8 yk)) rfl 2 (.int .i64 ya)) rfl 3 (.int .i64 yt)) rfl 4 (.int .i64 ye)
       have HO4:=Hm (HO.o.above hOx (λb e=>by omega))
       have HM4:=Hm (hOx.heap hm1 (by omega))
       clear hm1 xvar hOx hno hni hmb HBl
       by_cases hk1:yk=1
       ·subst hk1
        have HNB:Hd (nvBlock regs ⟨yi,⟨1,ya,yt,ye⟩⟩ L=⟨nvL regs yi L,⟨1,ya,yt,ye⟩⟩∧nvRest ⟨yi,⟨1,ya,yt,ye⟩⟩ L=L.drop yi.length):=⟨⟨rfl,rfl⟩⟩
        rw[HYs.o] at HNB
        obtain⟨okB,hB⟩:∃ okB:Nat→Prop,okB=λb=>ok b∨okI b∨(Value.slice AI ys.length cI).ownBlock=some b:=⟨_,rfl⟩
        have hB1:∀ b,okB b→ok b∨(m≤b∧b < ((((wr.setCell ⟨x,1,none⟩ (.int .u8 1)).setCell ⟨x,2,none⟩ (.int .i64 ya)).setCell ⟨x,3,none⟩ (.int .i64 yt)).setCell ⟨x,4,none⟩ (.int .i64 ye)).heap.size):=by
         rw[hB]
         rintro b (h|h|h)
         ·exact .inl h
         ·exact .inr ⟨by have:=HI4.o.ok b h;omega,HI4.o.inn.lt b h⟩
         ·exact .inr ⟨by have:=(HI4.o.own h).1;omega,(HI4.o.own h).2⟩
        have hB2:∀ b,okB b→some b≠(Value.slice Av j cv).ownBlock:=λb hb e=>by
         rcases hB1 b hb with h|h
         ·exact HO4.o.o.apart b h e
         ·have:=HO4.o.av b e.symm;omega
        have hB3:∀ b,okB b→b < ((((wr.setCell ⟨x,1,none⟩ (.int .u8 1)).setCell ⟨x,2,none⟩ (.int .i64 ya)).setCell ⟨x,3,none⟩ (.int .i64 yt)).setCell ⟨x,4,none⟩ (.int .i64 ye)).heap.size:=λb hb=>by
         rcases hB1 b hb with h|h
         ·exact HO4.o.o.lt b h
         ·exact h.2
        have HKb:=Hm (HO4.o.o.more (ok':=okB) (λb h=>by rw[hB];exact .inl h) hB2 hB3)
        have HYb:Hd (kBlock.K ((((wr.setCell ⟨x,1,none⟩ (.int .u8 1)).setCell ⟨x,2,none⟩ (.int .i64 ya)).setCell ⟨x,3,none⟩ (.int .i64 yt)).setCell ⟨x,4,none⟩ (.int .i64 ye)) okB ⟨ys,⟨1,ya,yt,ye⟩⟩ [.slice AI ys.length cI,.int .u8 1,.int .i64 ya,.int .i64 yt,.int .i64 ye]):=⟨kBlock_mk (b:=⟨ys,⟨1,ya,yt,ye⟩⟩) ⟨HFi.o.kind,HFi.o.a,HFi.o.to_,HFi.o.else_⟩ (HI4.o.inn.sk.stay (Stays.weaken (ok':=okB) (λb hb=>by
         rw[hB]
         rcases hb with hb|hb
         ·exact .inr (.inl hb)
         ·exact .inr (.inr hb.symm))))⟩
        have HB:=Hm hB1
        clear hB hB1 hB2 hB3
        go_wp2_with (first
         |(at_builtin;refine appK iBlock Tryz.underlying57 rfl (.tmp 170) (.tmp 172) rfl rfl (HKb.o.bel (bA (bR _) (.cells #[.slice AI ys.length cI,.int .u8 1,.int .i64 ya,.int .i64 yt,.int .i64 ye] 97))) (show c+1≤(World.alloc _ _).heap.size by have:=HO4.o.cm;have:=HO4.o.mx;simp at this⊢;omega) (q:=wr.heap.size) rfl (row_new' _ [.slice AI ys.length cI,.int .u8 1,.int .i64 ya,.int .i64 yt,.int .i64 ye] 97 _ (by simp)) (kBlock.stay (Stays.below (bA (bR _) _)) HYb.o) (show (xs.length+1)*56≤140737488355328 by omega) ?_)
         |fail)
        intro v7 X7 hk7 hg7 hw7
        have hO7:Only ((((wr.setCell ⟨x,1,none⟩ (.int .u8 1)).setCell ⟨x,2,none⟩ (.int .i64 ya)).setCell ⟨x,3,none⟩ (.int .i64 yt)).setCell ⟨x,4,none⟩ (.int .i64 ye)) X7 (λb=>(Value.slice Av j cv).ownBlock=some b):=Only.belLeft (bA (bR _) _) (Only.grown (F:=λb=>(Value.slice Av j cv).ownBlock=some b) hg7 (λg e=>e))
        have hhom:=HO4.o.hom.only hO7 (λb hb e=>(HO4.o.ah b hb).2.1 e) (λb hb=>hb.elim)
        have hcer:=HO4.o.cer.only hO7 (λb hb e=>(HO4.o.ac b hb).2 e) (λb hb e=>(HO4.o.okc_ b hb).2.2 e)
        have hcd:=hO7.heap HO4.o.cd (λe=>by have:=(HO4.o.o.lt_own c e).1;omega)
        obtain⟨Ah,ch,vsH,eH,-,-,hrowH,hallH⟩:=hhom.sk
        simp only[Value.slice.injEq] at eH
        obtain⟨rfl,-,rfl⟩:=eH
        have hlenH:vsH.length=V*2:=by have:=hallH.len;rw[home_len] at this;exact this
        have HH:=Hm (And.intro (hrowH.row.below (bA (bR X7) (.cells #[] 119))) (And.intro hlenH (And.intro hallH (And.intro hcer hcd))))
        have H7:=Hm (And.intro hk7 (And.intro hg7 hw7))
        obtain⟨A7,c7,rfl,-,-,-⟩:=hk7.form
        clear hk7 hg7 hw7 hO7 hhom hcer hcd hrowH hlenH hallH
        go_wp2_with (first
         |(at_builtin;refine app0 iPair Tryz.underlying117 rfl (.tmp 175) (.tmp 176) rfl rfl (own_empty X7 X7.heap.size 119 2 X7.heap.size rfl (Nat.le_refl _)) (by simp) (A:=A6) (m:=V) (c:=c6) rfl HH.o.1 HH.o.2.1 (by omega) ?_)
         |fail)
        intro v8 X8 hb8 ho8
        have hb8':Bel X7 X8:=bT (bA (bR X7) _) hb8
        have hk8:KRow kPair X8 X7.heap.size 119 (λ_=>False) (homeL regs V) v8:=⟨⟨vsH,by rw[home_len];exact ho8,all_pair HH.o.2.2.1⟩,λ_ h=>h.elim,λ_ h=>h.elim⟩
        obtain⟨A8,c8,rfl,-,-,-⟩:=hk8.form
        rw[home_len] at hk8⊢
        have hcd8:=bHeap hb8' HH.o.2.2.2.2
        have hcer8:=HH.o.2.2.2.1.bel hb8'
        obtain⟨okC,hC⟩:∃ okC:Nat→Prop,okC=λb=>okc b∨(Value.slice A8 V c8).ownBlock=some b:=⟨_,rfl⟩
        have hC1:∀ b,okC b→okc b∨(X7.heap.size≤b∧b < X8.heap.size):=by
         rw[hC]
         rintro b (h|h)
         ·exact .inl h
         ·exact .inr (hk8.lt_own b h)
        have hz7:((((wr.setCell ⟨x,1,none⟩ (.int .u8 1)).setCell ⟨x,2,none⟩ (.int .i64 ya)).setCell ⟨x,3,none⟩ (.int .i64 yt)).setCell ⟨x,4,none⟩ (.int .i64 ye)).heap.size≤X7.heap.size:=(Only.belLeft (F:=λb=>(Value.slice Av j cv).ownBlock=some b) (bA (bR _) _) (Only.grown H7.o.2.1 (λg e=>e))).size
        have HKc:=Hm (hcer8.more (ok':=okC) (λb h=>by rw[hC];exact .inl h) (λb hb e=>by
         rcases hC1 b hb with h|h
         ·exact hcer8.apart b h e
         ·have:=(HO4.o.ac b e.symm).1;have:=HO4.o.mx;omega) (λb hb=>by
         rcases hC1 b hb with h|h
         ·exact hcer8.lt b h
         ·exact h.2))
        have HYc:Hd (kPairs.K X8 okC (homeL regs V) [.slice A8 V c8]):=⟨⟨_,rfl,hk8.sk.stay (Stays.weaken (ok':=okC) (λb hb=>by
         rw[hC]
         rcases hb with hb|hb
         ·exact hb.elim
         ·exact .inr hb.symm))⟩⟩
        have H8:=Hm (And.intro hb8' (And.intro hcd8 hC1))
        have hcz8:c+1≤X8.heap.size:=by have:=hlt hcd8;omega
        clear hb8 ho8 hb8' hk8 hcd8 hcer8 hC hC1 hz7
        go_wp2_with (first
         |(at_builtin;refine appK iPairs Tryz.underlying69 rfl (.tmp 174) (.tmp 178) rfl rfl (HKc.o.bel (bA (bR _) (.cells #[.slice A8 V c8] 117))) (show c+1≤(World.alloc _ _).heap.size by simp;omega) (q:=X8.heap.size) rfl (row_new' _ [.slice A8 V c8] 117 _ rfl) (kPairs.stay (Stays.below (bA (bR _) _)) HYc.o) (show (cs.length+1)*24≤140737488355328 by omega) ?_)
         |fail)
        intro v9 X9 hk9 hg9 hw9
        have hcd9:X9.heap[c]?=some (.cells ([.int .i64 pr,.int .i64 regs,.int .i64 V,.slice Av j cv]:List Value).toArray 59 (0,0)):=by
         rw[hg9.block c (by simp;omega) (λe=>by have:=(HKc.o.lt_own c e.symm).1;omega)]
         exact bHeap (bA (bR X8) _) H8.o.2.1
        have cc3:X9.cell? ⟨c,3,none⟩=some (.slice Av j cv):=cell_at hcd9
        have cf3:=free_at hcd9 3
        have ccz:=hlt hcd9
        have HNw:=Hm (HO4.o.push (bA (bR _) _) H7.o.2.1 H7.o.1 (H7.o.2.2.imp (λh=>h) (λh=>by simpa using h)) (λb hb=>by
         rcases HB.o b hb with h|h
         ·exact .inl h
         ·exact .inr ⟨h.1,by simp at h⊢;omega⟩) (bA H8.o.1 (.cells #[.slice A8 V c8] 117)) hg9 hk9 (hw9.imp (λh=>h) (λh=>by simpa using h)) (λb hb=>by
         rcases H8.o.2.2 b hb with h|h
         ·exact .inl h
         ·exact .inr ⟨h.1,by simp;omega⟩))
        obtain⟨A9,c9,rfl,-,-,-⟩:=hk9.form
        have hl7:(xs++[(⟨ys,⟨1,ya,yt,ye⟩⟩:Block)]).length=j+1:=by simp;omega
        have hl9:(cs++[homeL regs V]).length=j+1:=by simp;omega
        rw[hl7,hl9] at HNw
        rw[hl9]
        clear hk9 hg9 hw9 hcd9 hl7 hl9
        go_wp2_with fail
        go_roundw
        case rel =>
         refine⟨j+1,okB,.slice A7 (j+1) c7,okC,by omega,by go_num,?_⟩
         rw[HSt.o.1,HSt.o.2.1,HSt.o.2.2]
         rw[HNB.o.1,HNB.o.2];exact HNw.o.up
        case measure=>simp[intOf];omega
       ·have hkne:(yk != 1)=true:=by simpa using hk1
        have hk23:¬yk=1:=hk1
        go_wp2_with fail
        generalize (((wr.setCell ⟨x,1,none⟩ (.int .u8 yk)).setCell ⟨x,2,none⟩ (.int .i64 ya)).setCell ⟨x,3,none⟩ (.int .i64 yt)).setCell ⟨x,4,none⟩ (.int .i64 ye)=X4 at HI4 HO4 HM4⊢
        clear m1 m2 m3 m4 hmz x0 x1 x2 x3 x4 y1 y2 y3 y4 hxz c3 hcz HI HO HMb
        have m2:X4.cell? ⟨m,2,none⟩=some (.int .i64 ya):=cell_at HM4.o
        have hmz:=hlt HM4.o
        have hpm:p < m:=by have:=HO4.o.pq;have:=HO4.o.qc;have:=HO4.o.cm;omega
        have hnx:=next_any' p (L.drop yi.length) X4.drew (HO4.o.belN (bD (bR X4))).rd
        have hch:=chd_lt (L.drop yi.length)
        have HNB:Hd (nvBlock regs ⟨yi,⟨yk,ya,yt,ye⟩⟩ L=⟨nvL regs yi L++[fillI ya (chd (L.drop yi.length) % regs)],⟨yk,(chd (L.drop yi.length) % regs:Nat),yt,ye⟩⟩∧nvRest ⟨yi,⟨yk,ya,yt,ye⟩⟩ L=(L.drop yi.length).tail):=⟨by unfold nvBlock nvRest;dsimp only;rw[if_neg hk1,if_neg hk1];exact⟨rfl,rfl⟩⟩
        rw[HYs.o] at HNB
        generalize chd (L.drop yi.length)=nn at *
        generalize (L.drop yi.length).tail=L' at *
        refine rgn [.rd 0,.rd 1,.rd 2,.rd 3,.rd 4,.rd 6,.hv 5 [0,1,2,3,6],.rd 7,.hv 8 [],.rd 9,.rd 10,.hv 11 []] (n:=184) rfl ?_
        iterate 6 (refine line_rd rfl (λK hK=>?_);go_simp;refine hK _ ?_;clear hK K)
        refine line_hv rfl ?_
        go_wp2_with fail
        refine hnx.mono ?_
        rintro e X5 ⟨rfl,hst⟩
        have HO5:=Hm ((HO4.o.belN (bD (bR X4))).next hst)
        have HI5:=Hm ((HI4.o.bel (bD (bR X4))).only hst.only (by omega) (λb hb e=>by have:=(HI4.o.own hb).1;omega) (λb hb e=>by have:=HI4.o.ok b hb;omega))
        have HM5:=Hm (hst.only.heap (bHeap (bD (bR X4)) HM4.o) (by omega))
        clear m2 hmz hnx hst HO4 HI4 HM4
        have m2:X5.cell? ⟨m,2,none⟩=some (.int .i64 ya):=cell_at HM5.o
        have hmz:=hlt HM5.o
        have hnz:¬(regs:Int)=0:=by omega
        have hnz':¬regs=0:=by omega
        obtain⟨r,hr⟩:∃ r,r=nn % regs:=⟨_,rfl⟩
        have hrr:r < regs:=by rw[hr];exact Nat.mod_lt _ (by omega)
        have t0:(nn:Int).tmod (regs:Int)=(r:Int):=by rw[hr];exact(Int.natCast_emod _ _).symm
        have tw0:IntKind.i64.wrap (r:Int)=(r:Int):=Go.IntWalk.i64_in _ (by omega)
        rw[←hr] at HNB
        clear hr
        have hys50:ys.length≤40:=by
         have h1:=nvL_len regs yi L (λi hi=>(HOkB.o.ins i hi).args3)
         rw[←HYs.o];omega
        go_wp2_with fail
        refine⟨?_,?_⟩
        ·simp only[Again,slotOf]
         go_simp
        iterate 1 (refine line_rd rfl (λK hK=>?_);go_simp;refine hK _ ?_;clear hK K)
        refine line_hv rfl ?_
        go_wp2_with fail
        have hfl:=fill_any' x okI ys (.slice AI ys.length cI) [.int .u8 yk,.int .i64 ya,.int .i64 yt,.int .i64 ye] rfl ya r HFi.o.a (by omega) (by omega) _ HI5.o
        refine hfl.mono ?_
        rintro e X6 ⟨rfl,vI6,hI6,hO6,hw6⟩
        have HO6:=Hm (HO5.o.above hO6 (λb e=>by
         rcases e with e|e
         ·omega
         ·have:=(HI5.o.own e).1;omega))
        have HM6:=Hm (hO6.heap HM5.o (by
         rintro (e|e)
         ·omega
         ·have:=(HI5.o.own e).1;omega))
        obtain⟨ys6,hys6⟩:∃ z,z=ys++[fillI ya r]:=⟨_,rfl⟩
        rw[←hys6] at hI6 HNB
        obtain⟨AI6,cI6,rfl,-,-,-⟩:=hI6.inn.form
        have HI6:=Hm hI6
        obtain⟨x0,x1,x2,x3,x4⟩:=cC5 hI6.var
        have y2:=free_at hI6.var 2
        have hxz:=hlt hI6.var
        have c3:X6.cell? ⟨c,3,none⟩=some (.slice Av j cv):=cell_at HO6.o.cd
        have hcz:c < X6.heap.size:=hlt HO6.o.cd
        have HI7:Hd (NI (X6.setCell ⟨x,2,none⟩ (.int .i64 r)) x okI ys6 (.slice AI6 ys6.length cI6) [.int .u8 yk,.int .i64 r,.int .i64 yt,.int .i64 ye]):=⟨HI6.o.put 1 (.int .i64 r)⟩
        have hO7:Only X6 (X6.setCell ⟨x,2,none⟩ (.int .i64 r)) (λb=>b=x):=oC (F:=λb=>b=x) (Only.refl X6 _) rfl 2 (.int .i64 r)
        have HO7:=Hm (HO6.o.above hO7 (λb e=>by omega))
        have hwr:(Lit.int .i64 (r:Int)).wf=true:=wf64.2 (by omega)
        clear m2 hmz hfl hI6 hO6 hw6 hys6 hO7 HI5 HO5 HM5
        go_wp2_with fail
        refine⟨?_,?_⟩
        ·exact trivial
        iterate 2 (refine line_rd rfl (λK hK=>?_);go_simp;refine hK _ ?_;clear hK K)
        refine line_hv rfl ?_
        go_wp2_with fail
        refine⟨?_,?_⟩
        ·exact trivial
        unfold Line
        obtain⟨okB,hB⟩:∃ okB:Nat→Prop,okB=λb=>ok b∨okI b∨(Value.slice AI6 ys6.length cI6).ownBlock=some b:=⟨_,rfl⟩
        have hB1:∀ b,okB b→ok b∨(m≤b∧b < (X6.setCell ⟨x,2,none⟩ (.int .i64 r)).heap.size):=by
         rw[hB]
         rintro b (h|h|h)
         ·exact .inl h
         ·exact .inr ⟨by have:=HI7.o.ok b h;omega,HI7.o.inn.lt b h⟩
         ·exact .inr ⟨by have:=(HI7.o.own h).1;omega,(HI7.o.own h).2⟩
        have hB2:∀ b,okB b→some b≠(Value.slice Av j cv).ownBlock:=λb hb e=>by
         rcases hB1 b hb with h|h
         ·exact HO7.o.o.apart b h e
         ·have:=HO7.o.av b e.symm;omega
        have hB3:∀ b,okB b→b < (X6.setCell ⟨x,2,none⟩ (.int .i64 r)).heap.size:=λb hb=>by
         rcases hB1 b hb with h|h
         ·exact HO7.o.o.lt b h
         ·exact h.2
        have HKb:=Hm (HO7.o.o.more (ok':=okB) (λb h=>by rw[hB];exact .inl h) hB2 hB3)
        have HYb:Hd (kBlock.K (X6.setCell ⟨x,2,none⟩ (.int .i64 r)) okB ⟨ys6,⟨yk,r,yt,ye⟩⟩ [.slice AI6 ys6.length cI6,.int .u8 yk,.int .i64 r,.int .i64 yt,.int .i64 ye]):=⟨kBlock_mk (b:=⟨ys6,⟨yk,r,yt,ye⟩⟩) ⟨HFi.o.kind,hwr,HFi.o.to_,HFi.o.else_⟩ (HI7.o.inn.sk.stay (Stays.weaken (ok':=okB) (λb hb=>by
         rw[hB]
         rcases hb with hb|hb
         ·exact .inr (.inl hb)
         ·exact .inr (.inr hb.symm))))⟩
        have HB:=Hm hB1
        clear hB hB1 hB2 hB3
        go_wp2_with (first
         |(at_builtin;refine appK iBlock Tryz.underlying57 rfl (.tmp 170) (.tmp 172) rfl rfl (HKb.o.bel (bA (bR _) (.cells #[.slice AI6 ys6.length cI6,.int .u8 yk,.int .i64 r,.int .i64 yt,.int .i64 ye] 97))) (show c+1≤(World.alloc _ _).heap.size by have:=HO7.o.cm;have:=HO7.o.mx;simp at this⊢;omega) (q:=X6.heap.size) rfl (row_new' _ [.slice AI6 ys6.length cI6,.int .u8 yk,.int .i64 r,.int .i64 yt,.int .i64 ye] 97 _ (by simp)) (kBlock.stay (Stays.below (bA (bR _) _)) HYb.o) (show (xs.length+1)*56≤140737488355328 by omega) ?_)
         |fail)
        intro v7 X7 hk7 hg7 hw7
        have hO7:Only (X6.setCell ⟨x,2,none⟩ (.int .i64 r)) X7 (λb=>(Value.slice Av j cv).ownBlock=some b):=Only.belLeft (bA (bR _) _) (Only.grown (F:=λb=>(Value.slice Av j cv).ownBlock=some b) hg7 (λg e=>e))
        have hhom:=HO7.o.hom.only hO7 (λb hb e=>(HO7.o.ah b hb).2.1 e) (λb hb=>hb.elim)
        have hcer:=HO7.o.cer.only hO7 (λb hb e=>(HO7.o.ac b hb).2 e) (λb hb e=>(HO7.o.okc_ b hb).2.2 e)
        have hcd:=hO7.heap HO7.o.cd (λe=>by have:=(HO7.o.o.lt_own c e).1;omega)
        obtain⟨Ah,ch,vsH,eH,-,-,hrowH,hallH⟩:=hhom.sk
        simp only[Value.slice.injEq] at eH
        obtain⟨rfl,-,rfl⟩:=eH
        have hlenH:vsH.length=V*2:=by have:=hallH.len;rw[home_len] at this;exact this
        have HH:=Hm (And.intro (hrowH.row.below (bA (bR X7) (.cells #[] 119))) (And.intro hlenH (And.intro hallH (And.intro hcer hcd))))
        have H7:=Hm (And.intro hk7 (And.intro hg7 hw7))
        obtain⟨A7,c7,rfl,-,-,-⟩:=hk7.form
        clear hk7 hg7 hw7 hO7 hhom hcer hcd hrowH hlenH hallH
        go_wp2_with (first
         |(at_builtin;refine app0 iPair Tryz.underlying117 rfl (.tmp 175) (.tmp 176) rfl rfl (own_empty X7 X7.heap.size 119 2 X7.heap.size rfl (Nat.le_refl _)) (by simp) (A:=A6) (m:=V) (c:=c6) rfl HH.o.1 HH.o.2.1 (by omega) ?_)
         |fail)
        intro v8 X8 hb8 ho8
        have hb8':Bel X7 X8:=bT (bA (bR X7) _) hb8
        have hk8:KRow kPair X8 X7.heap.size 119 (λ_=>False) (homeL regs V) v8:=⟨⟨vsH,by rw[home_len];exact ho8,all_pair HH.o.2.2.1⟩,λ_ h=>h.elim,λ_ h=>h.elim⟩
        obtain⟨A8,c8,rfl,-,-,-⟩:=hk8.form
        rw[home_len] at hk8⊢
        have hcd8:=bHeap hb8' HH.o.2.2.2.2
        have hcer8:=HH.o.2.2.2.1.bel hb8'
        obtain⟨okC,hC⟩:∃ okC:Nat→Prop,okC=λb=>okc b∨(Value.slice A8 V c8).ownBlock=some b:=⟨_,rfl⟩
        have hC1:∀ b,okC b→okc b∨(X7.heap.size≤b∧b < X8.heap.size):=by
         rw[hC]
         rintro b (h|h)
         ·exact .inl h
         ·exact .inr (hk8.lt_own b h)
        have hz7:(X6.setCell ⟨x,2,none⟩ (.int .i64 r)).heap.size≤X7.heap.size:=(Only.belLeft (F:=λb=>(Value.slice Av j cv).ownBlock=some b) (bA (bR _) _) (Only.grown H7.o.2.1 (λg e=>e))).size
        have HKc:=Hm (hcer8.more (ok':=okC) (λb h=>by rw[hC];exact .inl h) (λb hb e=>by
         rcases hC1 b hb with h|h
         ·exact hcer8.apart b h e
         ·have:=(HO7.o.ac b e.symm).1;have:=HO7.o.mx;omega) (λb hb=>by
         rcases hC1 b hb with h|h
         ·exact hcer8.lt b h
         ·exact h.2))
        have HYc:Hd (kPairs.K X8 okC (homeL regs V) [.slice A8 V c8]):=⟨⟨_,rfl,hk8.sk.stay (Stays.weaken (ok':=okC) (λb hb=>by
         rw[hC]
         rcases hb with hb|hb
         ·exact hb.elim
         ·exact .inr hb.symm))⟩⟩
        have H8:=Hm (And.intro hb8' (And.intro hcd8 hC1))
        have hcz8:c+1≤X8.heap.size:=by have:=hlt hcd8;omega
        clear hb8 ho8 hb8' hk8 hcd8 hcer8 hC hC1 hz7
        go_wp2_with (first
         |(at_builtin;refine appK iPairs Tryz.underlying69 rfl (.tmp 174) (.tmp 178) rfl rfl (HKc.o.bel (bA (bR _) (.cells #[.slice A8 V c8] 117))) (show c+1≤(World.alloc _ _).heap.size by simp;omega) (q:=X8.heap.size) rfl (row_new' _ [.slice A8 V c8] 117 _ rfl) (kPairs.stay (Stays.below (bA (bR _) _)) HYc.o) (show (cs.length+1)*24≤140737488355328 by omega) ?_)
         |fail)
        intro v9 X9 hk9 hg9 hw9
        have hcd9:X9.heap[c]?=some (.cells ([.int .i64 pr,.int .i64 regs,.int .i64 V,.slice Av j cv]:List Value).toArray 59 (0,0)):=by
         rw[hg9.block c (by simp;omega) (λe=>by have:=(HKc.o.lt_own c e.symm).1;omega)]
         exact bHeap (bA (bR X8) _) H8.o.2.1
        have cc3:X9.cell? ⟨c,3,none⟩=some (.slice Av j cv):=cell_at hcd9
        have cf3:=free_at hcd9 3
        have ccz:=hlt hcd9
        have HNw:=Hm (HO7.o.push (bA (bR _) _) H7.o.2.1 H7.o.1 (H7.o.2.2.imp (λh=>h) (λh=>by simpa using h)) (λb hb=>by
         rcases HB.o b hb with h|h
         ·exact .inl h
         ·exact .inr ⟨h.1,by simp at h⊢;omega⟩) (bA H8.o.1 (.cells #[.slice A8 V c8] 117)) hg9 hk9 (hw9.imp (λh=>h) (λh=>by simpa using h)) (λb hb=>by
         rcases H8.o.2.2 b hb with h|h
         ·exact .inl h
         ·exact .inr ⟨h.1,by simp;omega⟩))
        obtain⟨A9,c9,rfl,-,-,-⟩:=hk9.form
        have hl7:(xs++[(⟨ys6,⟨yk,r,yt,ye⟩⟩:Block)]).length=j+1:=by simp;omega
        have hl9:(cs++[homeL regs V]).length=j+1:=by simp;omega
        rw[hl7,hl9] at HNw
        rw[hl9]
        clear hk9 hg9 hw9 hcd9 hl7 hl9
        go_wp2_with fail
        go_roundw
        case rel =>
         refine⟨j+1,okB,.slice A7 (j+1) c7,okC,by omega,by go_num,?_⟩
         rw[HSt.o.1,HSt.o.2.1,HSt.o.2.2]
         rw[HNB.o.1,HNB.o.2];exact HNw.o.up
        case measure=>simp[intOf];omega
    ·obtain rfl:j=fb.length:=by omega
     rw[List.take_length] at *
     obtain⟨c0,c1,c2,c3⟩:=cC4 HO.o.cd
     obtain⟨q0,q1,q2,q3⟩:=cC4 HO.o.res
     obtain⟨f0,f1,f2,f3⟩:=fF4 HO.o.res
     have hcz:=hlt HO.o.cd
     have hqz:=hlt HO.o.res
     have hqc:=HO.o.qc
     go_wp2_with fail
     have hO:=oC (oC (oC (oC (F:=λb=>b=q) (Only.refl wr _) rfl 0 (.int .i64 pr)) rfl 1 (.int .i64 regs)) rfl 2 (.int .i64 V)) rfl 3 (.slice Av fb.length cv)
     have hqf:=set_at (set_at (set_at (set_at HO.o.res 0 (.int .i64 pr)) 1 (.int .i64 regs)) 2 (.int .i64 V)) 3 (.slice Av fb.length cv)
     obtain⟨z0,z1,z2,z3⟩:=cC4 hqf
     exact bodyPost_ret (v:=.tuple #[.agg #[.int .i64 pr,.int .i64 regs,.int .i64 V,.slice Av fb.length cv],.slice Ac fb.length cc]) (by simp[results,Tryz.results40,go_sem,z0,z1,z2,z3]) rfl (HO.o.post HE.o hO)
end Go.Proofs.YtjkgligohegaeaaGreatDoor
