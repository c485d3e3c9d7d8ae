/- Lemmas of the row. -/
import Derived.Laws.CopyOwn
import Derived.Test.YtjkgligohegaeaaGreatDoorN11
set_option linter.all false
set_option maxRecDepth 20000
set_option maxHeartbeats 12800000
namespace Go.Proofs.YtjkgligohegaeaaGreatDoor
open Go.RowKit
theorem cloneB_any (l:List UInt8) (A:Option Addr) (c:Nat) (w:World) (h:Bytes w A l) (hl:l.length≤10000000) :
  Calls Tryz.prog 77 #[.slice A l.length c] w λe w'=>∃ v,e=.returned v∧Bel w w'∧OwnB w' w.heap.size v l:=by
 cases A with
 |none =>
  obtain rfl:l=[]:=by
   rcases l with _|⟨x,r⟩
   ·rfl
   ·obtain⟨b,off,e,_⟩:=h 0 (by simp);cases e
  refine(Tryz.slices_Clone_nil_f77 _ c w).mono ?_
  rintro e w' ⟨rfl,rfl⟩
  exact⟨_,rfl,bR _,own_none _ _ _ _ 0 rfl⟩
 |some a =>
  have he:=λ(w:World)=>Lib.run_eql_slice_nil (P:=Tryz.prog) w 38 5 (some a) l.length c 0 0 Tryz.underlying38
  have H:=Hm h
  clear h
  go_enter Tryz.func77,Tryz.ntmps77
  go_wp2_with (first
   |(at_builtin;refine app0 iByte Tryz.underlying38 rfl (.tmp 5) (.tmp 6) rfl rfl (own_empty w w.heap.size 5 1 w.heap.size rfl (Nat.le_refl _)) (show w.heap.size≤(w.alloc _).heap.size by simp) (A:=some a) (m:=l.length) (c:=c) rfl (H.o.below ((bA (bR w) _))) (by simp) (by omega) ?_;intro v2 w2 hb2 ho2)
   |fail)
  have HB:=Hm (bT (bA (bR w) _) hb2)
  have HO:=Hm ho2
  clear hb2 ho2
  go_wp2
  go_ret
  exact⟨_,rfl,HB.o,HO.o⟩
theorem run_from (b o n c k:Nat) (h1:k < n) (h2:n≤c) (w:World) :
  (Instr.sliceAt 38 (.slice (some ⟨b,o,none⟩) n c) (some (.int .i64 k)) none none).run Tryz.prog w=.ok (.slice (some ⟨b,o+k,none⟩) (n-k) (c-k)) w:=by
 have hu:Tryz.prog.underlying 38=some (.slice 5):=by kernel_rfl
 have hs:∀ w,(sizeOf 5).run Tryz.prog w=.ok 1 w:=Tryz.sizeOf5
 have e1:¬(c=k):=by omega
 have e2:k≤n:=by omega
 simp[Instr.sliceAt,go_sem,run_underlying hu,hs,e1,e2,h2]
theorem own_block {w:World} {base:Nat} {v:Value} {l:List UInt8} (h:OwnB w base v l) (h0:0 < l.length):∃ g c cur,v=.slice (some ⟨g,0,none⟩) l.length c∧base≤g∧w.heap[g]?=some (.cells cur 5 (0,0))∧l.length≤c∧c≤maxLen∧cur.size=c∧cur.toList.take l.length=l.map byteV:=by
 rcases h.2 with ⟨_,h1⟩|⟨g,c,cur,h1,h2,h3,h4,h5,h6,h7⟩
 ·omega
 ·exact⟨g,c,cur,h1,h2,h3,h4,h5,by rw[h6,Nat.mul_one],by rw[←h7,Nat.mul_one]⟩
theorem put_end (l d:List UInt8) (base:Nat) (v:Value) (B:Option Addr) (c:Nat) (w:World) (hv:OwnB w base v l) (hbase:base≤w.heap.size) (hd:Bytes w B d) (hdc:d.length≤c) (h0:0 < d.length) (hne:∀ a,B=some a→some a.block≠v.ownBlock) (hsz:l.length+d.length≤10000000) :
  Calls Tryz.prog 78 #[v,.agg #[.int .i64 l.length,.slice B d.length c]] w λe w'=>∃ v',e=.returned v'∧OwnB w' base v' (l++d)∧w.grownBy w' v.ownBlock∧(v'.ownBlock=v.ownBlock∨∀ g,v'.ownBlock=some g→w.heap.size≤g):=by
 have HV:=Hm hv
 have HD:=Hm hd
 have HN:=Hm hne
 obtain⟨bd,od,rfl⟩:∃ bd od,B=some ⟨bd,od,none⟩:=by
  obtain⟨b,off,e,_⟩:=hd 0 (by simpa using h0)
  exact⟨b,off,e⟩
 have hbd:bd < w.heap.size:=by
  obtain⟨b,off,e,hc⟩:=hd 0 (by simpa using h0)
  cases e
  exact World.block_lt_of_cell? w _ hc
 have hwr:IntKind.i64.wrap ((l.length:Int)+d.length)=(l.length:Int)+d.length:=by simp[IntKind.wrap,IntKind.bits,IntKind.signed];omega
 obtain⟨n,hn⟩:∃ n,n=l.length:=⟨_,rfl⟩
 obtain⟨m,hm⟩:∃ m,m=d.length:=⟨_,rfl⟩
 have HL:=Hm (And.intro hn hm)
 rw[←hn,←hm] at hwr hsz
 rw[←hm] at hdc h0
 rw[←hn,←hm]
 clear hv hd hne hn hm
 obtain⟨A,cv,rfl,-⟩:=own_row HV.o
 go_enter Tryz.func78,Tryz.ntmps78
 rw[←HL.o.1]
 have HV':=HV.o
 obtain⟨V0,hV0⟩:∃ V0,V0=Value.slice A n cv:=⟨_,rfl⟩
 rw[←HL.o.1,←hV0] at HN HV'
 have HV2:=Hm HV'
 go_wp2_with fail
 obtain⟨w1,hw1⟩:∃ w1,w1=w.alloc (.cells #[.int .i64 n,.slice (some ⟨bd,od,none⟩) m c] 177):=⟨_,rfl⟩
 obtain⟨q,hq⟩:∃ q,q=w.heap.size:=⟨_,rfl⟩
 have HB1:Hd (Bel w w1):=⟨by rw[hw1];exact bA (bR w) _⟩
 have K0:Hd (w1.heap[q]?=some (.cells #[.int .i64 n,.slice (some ⟨bd,od,none⟩) m c] 177 (0,0))):=⟨by rw[hw1];exact hnew hq⟩
 have HS1:Hd (w1.heap.size=q+1):=⟨by rw[hw1,hq];simp⟩
 have hvb:∀ g,V0.ownBlock=some g→g < q:=λg hg=>by rw[hq];exact(HV2.o.lt g hg).2
 have HVb:=Hm hvb
 have HQ:=Hm hq
 rw[←hw1,←hq]
 clear hw1 hvb HV' hq HV
 go_loopw [0] (λv wr=>∃ k:Nat,k≤m∧OwnB wr base v (l++List.replicate k 0)∧w1.grownBy wr V0.ownBlock∧(v.ownBlock=V0.ownBlock∨∀ g,v.ownBlock=some g→q < g)) (λv _=>n+m-sliceLen (some v))
 case atStart=>exact⟨0,Nat.zero_le _,by rw[←hV0];show OwnB _ _ _ (l++[]);rw[List.append_nil];exact own_below HV2.o HB1.o,grownBy_refl _ _,.inl (by rw[hV0])⟩
 case round =>
  obtain⟨k,hk,hown,hg,hwh⟩:=hrel
  obtain⟨A2,c2,rfl,-⟩:=own_row hown
  have hlen:(l++List.replicate k (0:UInt8)).length=n+k:=by simp[HL.o.1]
  rw[hlen] at hwh⊢
  have HO:Hd (wr.ownsRow base 5 1 (.slice A2 (n+k) c2) (n+k) ((l++List.replicate k (0:UInt8)).map byteV)):=⟨by have:=hown;unfold OwnB at this;rw[hlen] at this;exact this⟩
  have HG:=Hm hg
  have HW:=Hm hwh
  clear hown hg hwh
  have hqv:some q≠V0.ownBlock:=λe=>by have:=HVb.o q e.symm;omega
  have k0:=(HG.o.block q (by rw[HS1.o];omega) hqv).trans K0.o
  have b0:wr.cell? ⟨q,0,none⟩=some (.int .i64 n):=hcell k0 0
  have b1:wr.cell? ⟨q,1,none⟩=some (.slice (some ⟨bd,od,none⟩) m c):=hcell k0 1
  have hql:=hlt k0
  clear k0 hqv
  by_cases hkm:k < m
  ·have hkm':(n:Int)+k < (n:Int)+m:=by omega
   go_wp2_with (first
    |(at_builtin;refine appW iByte Tryz.underlying38 rfl (.tmp 14) (.tmp 15) rfl (v:=.slice A2 (n+k) c2) rfl (own_below HO.o (bA (bR wr) _)) (show base≤(wr.alloc _).heap.size by have:=HG.o.size;have:=HS1.o;have:=HQ.o;simp;omega) (q:=wr.heap.size) rfl (row_new wr [.int .u8 0] 5 (0,0)) (by simp) (by intro u hu;simp at hu;subst hu;rfl) (by omega) ?_;intro v3 w3 ho3 hg3 hw3)
    |fail)
   have hg4:w1.grownBy w3 V0.ownBlock:=⟨hg3.os.trans HG.o.os,hg3.tape.trans HG.o.tape,hg3.output.trans HG.o.output,Nat.le_trans HG.o.size (Nat.le_trans (bA (bR wr) _).size hg3.size),λb hb hbr=>by
    have h1:=HG.o.block b hb hbr
    have hbw:b < wr.heap.size:=Nat.lt_of_lt_of_le hb HG.o.size
    have h2:(wr.alloc (.cells #[.int .u8 0] 5)).heap[b]?=wr.heap[b]?:=heap_old _ _ _ hbw
    rw[←h1,←h2]
    refine hg3.block b (by simp;omega) λe=>?_
    rcases HW.o with h|h
    ·exact hbr (e.trans h)
    ·have:=h b e.symm;rw[HS1.o] at hb;omega⟩
   have ho4:OwnB w3 base v3 (l++List.replicate (k+1) 0):=by
    unfold OwnB
    rw[List.replicate_succ',←List.append_assoc,List.length_append,hlen,List.map_append]
    exact ho3
   have hw4:v3.ownBlock=V0.ownBlock∨∀ g,v3.ownBlock=some g→q < g:=by
    rcases hw3 with h|h
    ·rcases HW.o with h2|h2
     ·exact .inl (h.trans h2)
     ·exact .inr λg hg=>h2 g (by rw[←h];exact hg)
    ·exact .inr λg hg=>by
      rw[h] at hg
      have:=HG.o.size
      rw[HS1.o] at this
      simp at hg
      omega
   obtain⟨A3,c3,rfl,-⟩:=own_row ho4
   have H4:=Hm (And.intro hg4 (And.intro ho4 hw4))
   clear hg3 hw3 ho3 hg4 ho4 hw4
   go_wp2
   go_roundw
   case rel=>exact⟨k+1,by omega,H4.o.2.1,H4.o.1,H4.o.2.2⟩
   case measure=>simp[sliceLen,HL.o.1];omega
  ·obtain rfl:k=m:=by omega
   have hlt2:¬((n:Int)+k < (n:Int)+k):=by omega
   obtain⟨g,cg,cur,hv,hbg,hhg,hng,hmg,hcs,htk⟩:=own_block (show OwnB wr base (.slice A2 (n+k) c2) (l++List.replicate k 0) by unfold OwnB;rw[hlen];exact HO.o) (by rw[hlen];omega)
   rw[hlen] at hv hng htk
   simp only[Value.slice.injEq,true_and] at hv
   obtain⟨rfl,rfl⟩:=hv
   have hrf:=λw=>run_from g 0 (n+k) c2 n (by omega) hng w
   rw[Nat.zero_add,Nat.add_sub_cancel_left] at hrf
   have hnk:n≤n+k:=by omega
   have hgl:g < wr.heap.size:=hlt hhg
   go_wp2_with fail
   refine rgn [.rd 0,.rd 1,.rd 2,.rd 3,.rd 4,.rd 5,.hv 6 []] (n:=25) rfl ?_
   iterate 6 (refine line_rd rfl (λK hK=>?_);go_simp;refine hK _ ?_;clear hK K)
   refine line_hv rfl ?_
   have hsrcr:Row wr (some ⟨bd,od,none⟩) (d.map byteV):=by
    have hgw:w.grownBy wr V0.ownBlock:=grownBy_trans (grownBy_below HB1.o) HG.o
    exact Row.grown HD.o hgw (λa ha=>HN.o a ha)
   have hdl:(d.map byteV).length=k:=by rw[List.length_map];exact HL.o.2.symm
   refine wpList_copy_own rfl (.tmp 20) (.tmp 22) 38 38 rfl 5 Tryz.underlying38 (by kernel_rfl) g n k (c2-n) ⟨bd,od,none⟩ k c rfl rfl cur 5 hhg (d.map byteV) (by rw[hdl];exact(Nat.min_self k).symm) ?_ (by rw[hdl,hcs];exact hng) byte_one ?_
   ·intro j u hu
    obtain⟨hj,rfl⟩:=List.getElem?_eq_some_iff.1 hu
    obtain⟨b',off',e',hc⟩:=hsrcr j hj
    simp only[Option.some.injEq,Addr.mk.injEq,and_true] at e'
    obtain⟨rfl,rfl⟩:=e'
    rw[show (⟨bd,od,none⟩:Addr).add j=⟨bd,od+j,none⟩ from by unfold Addr.add;split<;>simp_all]
    exact hc
   have htn:cur.toList.take n=l.map byteV:=by
    have:=congrArg (List.take n) htk
    rw[List.take_take,Nat.min_eq_left (by omega),List.map_append,List.take_left' (by rw[List.length_map];exact HL.o.1.symm)] at this
    exact this
   have hfin:=setRow_heap wr.drew g cur (cur.toList.take n++(d.map byteV++cur.toList.drop (n+(d.map byteV).length))).toArray 5 (0,0) hhg
   have hoth:=λk h=>setRow_other wr.drew g k (cur.toList.take n++(d.map byteV++cur.toList.drop (n+(d.map byteV).length))).toArray h
   have hfin2:OwnB (wr.drew.setRow g (cur.toList.take n++(d.map byteV++cur.toList.drop (n+(d.map byteV).length))).toArray) base (.slice (some ⟨g,0,none⟩) (n+k) c2) (l++d):=by
    have e1:(l++d).length=n+k:=by rw[List.length_append];have:=HL.o;omega
    unfold OwnB
    rw[e1]
    refine⟨by simp;have:=HL.o;omega,.inr ⟨g,c2,_,rfl,hbg,hfin,hng,hmg,?_,?_⟩⟩
    ·have:cur.toList.length=c2:=by simpa using hcs
     simp
     have:=HL.o
     omega
    ·rw[htn,←List.append_assoc,List.map_append,Nat.mul_one]
     rw[List.take_left' (by simp;have:=HL.o;omega)]
   have hgr2:w.grownBy (wr.drew.setRow g (cur.toList.take n++(d.map byteV++cur.toList.drop (n+(d.map byteV).length))).toArray) V0.ownBlock:=by
    have hgw:w.grownBy wr V0.ownBlock:=grownBy_trans (grownBy_below HB1.o) HG.o
    refine⟨hgw.os,hgw.tape,hgw.output,by simpa using hgw.size,λb hb hbr=>?_⟩
    rw[hoth b ?_]
    ·exact hgw.block b hb hbr
    ·rintro rfl
     rcases HW.o with h|h
     ·exact hbr (h.symm ▸ rfl)
     ·have:=h b rfl;have:=HQ.o;omega
   have hwh3:(Value.slice (some ⟨g,0,none⟩) (n+k) c2).ownBlock=V0.ownBlock∨∀ x,(Value.slice (some ⟨g,0,none⟩) (n+k) c2).ownBlock=some x→w.heap.size≤x:=by
    rcases HW.o with h|h
    ·exact .inl h
    ·exact .inr λx hx=>by have:=h x hx;have:=HQ.o;omega
   have HF:=Hm (And.intro hfin2 (And.intro hgr2 hwh3))
   clear hfin2 hgr2 hwh3 hfin hoth htn hsrcr hhg hcs htk hrf b0 b1
   generalize wr.drew.setRow g (cur.toList.take n++(d.map byteV++cur.toList.drop (n+(d.map byteV).length))).toArray=w5 at *
   rw[hV0] at HF
   go_wp2_with fail
   refine⟨?_,?_⟩
   ·exact trivial
   unfold Line
   go_wp2
   go_ret
   exact⟨_,rfl,HF.o.1,HF.o.2.1,HF.o.2.2⟩
structure FileAt (w:World) (p room:Nat) (l:List UInt8) (A:Option Addr) (c:Nat):Prop where
 head:w.heap[p]?=some (.cells #[.int .i64 room,.slice A l.length c,.slice none 0 0] 175 (0,0))
 sure:Bytes w A l
 cap:l.length≤c
 apart:∀ a,A=some a→a.block≠p
 room:room≤4194304
 small:l.length≤4194304
structure FileQ (w:World) (p room:Nat) (l:List UInt8) (A:Option Addr) (c:Nat) (d:List UInt8) (gq cq:Nat) (B:Option Addr) (cd:Nat):Prop where
 head:w.heap[p]?=some (.cells #[.int .i64 room,.slice A l.length c,.slice (some ⟨gq,0,none⟩) 1 cq] 175 (0,0))
 sure:Bytes w A l
 cap:l.length≤c
 apart:∀ a,A=some a→a.block≠p
 room:room≤4194304
 small:l.length+d.length≤4194304
 row:Row w (some ⟨gq,0,none⟩) [.int .i64 l.length,.slice B d.length cd]
 data:Bytes w B d
 dcap:d.length≤cd
 pos:0 < d.length
 qne:gq≠p
 dne:∀ a,B=some a→a.block≠p
section
variable {w w':World} {p room:Nat} {l d:List UInt8} {A B:Option Addr} {c cd gq cq:Nat}
theorem FileAt.bel (h:FileAt w p room l A c) (hb:Bel w w'):FileAt w' p room l A c:=⟨bHeap hb h.head,h.sure.below hb,h.cap,h.apart,h.room,h.small⟩
theorem FileQ.bel (h:FileQ w p room l A c d gq cq B cd) (hb:Bel w w'):FileQ w' p room l A c d gq cq B cd :=
 ⟨bHeap hb h.head,h.sure.below hb,h.cap,h.apart,h.room,h.small,h.row.below hb,h.data.below hb,h.dcap,h.pos,h.qne,h.dne⟩
end
theorem bytes_at (p room:Nat) (l:List UInt8) (A:Option Addr) (c:Nat) (w:World) (h:FileAt w p room l A c) :
  Calls Tryz.prog 39 #[.pointer (some ⟨p,0,none⟩)] w λe w'=>∃ v,e=.returned v∧Bel w w'∧OwnB w' w.heap.size v l:=by
 have HC:=Hm (cloneB_any l A c w h.sure (by have:=h.small;omega))
 have H:=Hm h
 have c1:w.cell? ⟨p,1,none⟩=some (.slice A l.length c):=hcell h.head 1
 have hp:=hlt h.head
 clear h
 go_enter Tryz.func39,Tryz.ntmps39
 go_wp2_with fail
 refine HC.o.mono ?_
 rintro e w1 ⟨v,rfl,hb,ho⟩
 have HB:=Hm hb
 have HO:=Hm ho
 have c2:w1.cell? ⟨p,2,none⟩=some (.slice none 0 0):=hcell (H.o.bel hb).head 2
 have hp1:p < w1.heap.size:=hlt (H.o.bel hb).head
 obtain⟨A1,c1',rfl,-⟩:=own_row ho
 clear hb ho c1 hp
 go_wp2_with fail
 go_loop [3,18] (λv i=>v=.slice A1 l.length c1'∧i=.int .i64 0) (λ_ _=>0)
 case atStart=>exact⟨rfl,rfl⟩
 case round =>
  obtain⟨rfl,rfl⟩:=hrel
  go_wp2
  go_ret
  exact⟨_,rfl,HB.o,HO.o⟩
theorem bytes_q (p room:Nat) (l:List UInt8) (A:Option Addr) (c:Nat) (d:List UInt8) (gq cq:Nat) (B:Option Addr) (cd:Nat) (w:World) (h:FileQ w p room l A c d gq cq B cd) :
  Calls Tryz.prog 39 #[.pointer (some ⟨p,0,none⟩)] w λe w'=>∃ v,e=.returned v∧Bel w w'∧OwnB w' w.heap.size v (l++d):=by
 have HC:=Hm (cloneB_any l A c w h.sure (by have:=h.small;omega))
 have H:=Hm h
 have c1:w.cell? ⟨p,1,none⟩=some (.slice A l.length c):=hcell h.head 1
 have hp:=hlt h.head
 clear h
 go_enter Tryz.func39,Tryz.ntmps39
 go_wp2_with fail
 refine HC.o.mono ?_
 rintro e w1 ⟨v,rfl,hb,ho⟩
 have HB:=Hm hb
 have HO:=Hm ho
 have c2:w1.cell? ⟨p,2,none⟩=some (.slice (some ⟨gq,0,none⟩) 1 cq):=hcell (H.o.bel hb).head 2
 have hp1:p < w1.heap.size:=hlt (H.o.bel hb).head
 obtain⟨A1,c1',rfl,-⟩:=own_row ho
 have HQ:=Hm (H.o.bel hb)
 clear hb ho c1 hp
 go_wp2_with fail
 go_loopw [3,18] (λv i wr=>(v=.slice A1 l.length c1'∧i=.int .i64 0∧wr=w1)∨(i=.int .i64 1∧Bel w wr∧OwnB wr w.heap.size v (l++d))) (λ_ i _=>1-(intOf i).toNat)
 case atStart=>exact .inl ⟨rfl,rfl,rfl⟩
 case round =>
  rcases hrel with ⟨rfl,rfl,rfl⟩|⟨rfl,hb,ho⟩
  ·obtain⟨b0,o0,e0,q0⟩:=HQ.o.row 0 (by simp)
   obtain⟨b1,o1,e1,q1⟩:=HQ.o.row 1 (by simp)
   cases e0
   cases e1
   simp only[List.getElem_cons_zero,List.getElem_cons_succ,Nat.zero_add] at q0 q1
   have HP:=Hm (put_end l d w.heap.size (.slice A1 l.length c1') B cd (wr.alloc (.cells #[.int .i64 l.length,.slice B d.length cd] 177)) (own_below HO.o (bA (bR _) _)) (by have:=HB.o.size;simp;omega) (HQ.o.data.below (bA (bR _) _)) HQ.o.dcap HQ.o.pos (by
    intro a ha e
    have h1:=(HO.o.lt _ e.symm).1
    obtain⟨b,off,e2,hc⟩:=H.o.data 0 (by simpa using H.o.pos)
    rw[ha] at e2
    cases e2
    have:=World.block_lt_of_cell? w _ hc
    dsimp only at this h1
    omega) (by have:=HQ.o.small;omega))
   go_wp2_with fail
   refine HP.o.mono ?_
   rintro e w3 ⟨v3,rfl,ho3,hg3,-⟩
   have HB3:Hd (Bel w w3):=⟨bG (bT HB.o (bA (bR _) _)) hg3 (λk hk=>(HO.o.lt k hk).1)⟩
   have HO3:=Hm ho3
   obtain⟨A3,c3,rfl,-⟩:=own_row ho3
   clear ho3 hg3 q0 q1 c2
   go_wp2_with fail
   go_roundw
   case rel=>exact .inr ⟨rfl,HB3.o,by rw[←List.length_append];exact HO3.o⟩
   case measure=>decide
  ·have HB3:=Hm hb
   have HO3:=Hm ho
   obtain⟨A3,c3,rfl,-⟩:=own_row ho
   clear hb ho
   go_wp2
   go_ret
   exact⟨_,rfl,HB3.o,HO3.o⟩
theorem file_new (room:Nat) (hr:room≤4194304) (w:World) :
  Calls Tryz.prog 51 #[.int .i64 room] w λe w'=>∃ p,e=.returned (.tuple #[.pointer (some ⟨p,0,none⟩),.int .i64 0])∧w.heap.size≤p∧Bel w w'∧FileAt w' p room [] none 0:=by
 have h1:¬(4194304:Int) < (room:Int):=by omega
 go_enter Tryz.func51,Tryz.ntmps51
 go_wp2
 go_ret2
 exact⟨w.heap.size,rfl,Nat.le_refl _,bA (bR w) _,⟨hnew rfl,Bytes.nil _ _,Nat.le_refl _,(λa ha=>by cases ha),hr,Nat.zero_le _⟩⟩
theorem sure_at (p room:Nat) (l:List UInt8) (A:Option Addr) (c:Nat) (w:World) (h:FileAt w p room l A c) :
  Calls Tryz.prog 111 #[.pointer (some ⟨p,0,none⟩)] w λe w'=>e=.returned (.int .i64 l.length)∧w'=w:=by
 have c1:w.cell? ⟨p,1,none⟩=some (.slice A l.length c):=hcell h.head 1
 have hp:=hlt h.head
 clear h
 go_enter Tryz.func111,Tryz.ntmps111
 go_wp2
 go_ret
 exact⟨rfl,rfl⟩
theorem sync_q (p room:Nat) (l:List UInt8) (A:Option Addr) (c:Nat) (d:List UInt8) (gq cq:Nat) (B:Option Addr) (cd:Nat) (w:World) (h:FileQ w p room l A c d gq cq B cd) :
  Calls Tryz.prog 110 #[.pointer (some ⟨p,0,none⟩)] w λe w'=>e=.returned (.tuple #[])∧w.grownBy w' (some p)∧∃ A' c',FileAt w' p room (l++d) A' c'∧∀ a,A'=some a→w.heap.size≤a.block:=by
 have HC:=Hm (bytes_q p room l A c d gq cq B cd w h)
 have H:=Hm h
 have hp:=hlt h.head
 clear h
 go_enter Tryz.func110,Tryz.ntmps110
 go_wp2_with fail
 refine HC.o.mono ?_
 rintro e w1 ⟨v,rfl,hb,ho⟩
 have HB:=Hm hb
 have HO:=Hm ho
 have hq:=H.o.bel hb
 have HQ:=Hm hq
 have c1:w1.cell? ⟨p,1,none⟩=some (.slice A l.length c):=hcell hq.head 1
 have c2:w1.cell? ⟨p,2,none⟩=some (.slice (some ⟨gq,0,none⟩) 1 cq):=hcell hq.head 2
 obtain⟨-,f1,f2⟩:=fF3 hq.head
 have hp1:p < w1.heap.size:=hlt hq.head
 obtain⟨A1,c1',rfl,hrow,-,hfr,hcap,-⟩:=own_row ho
 have HF:=Hm (And.intro hrow (And.intro hfr hcap))
 clear hb ho hq hrow hfr hcap
 go_wp2
 go_end0
 refine⟨rfl,grownBy_trans (grownBy_below HB.o) (grownBy_trans (grownBy_cell _ _ _ _) (grownBy_cell _ _ _ _)),A1,c1',?_,HF.o.2.1⟩
 have hne:∀ a,A1=some a→a.block≠p:=λa ha e=>by have:=HF.o.2.1 a ha;omega
 refine⟨?_,?_,HF.o.2.2,hne,HQ.o.room,by have:=HQ.o.small;rw[List.length_append];exact this⟩
 ·rw[Go.Joins.block_setCell (Go.Joins.block_setCell HQ.o.head _) _,List.length_append]
  rfl
 ·exact Row.grown (Row.grown HF.o.1 (grownBy_cell _ _ _ _) (λa ha=>by have:=hne a ha;simpa using this)) (grownBy_cell _ _ _ _) (λa ha=>by have:=hne a ha;simpa using this)
theorem run_cut3 (A:Option Addr) (m c n:Nat) (h1:n≤m) (h2:m≤c) (w:World) :
  (Instr.sliceAt 38 (.slice A m c) none (some (.int .i64 n)) (some (.int .i64 n))).run Tryz.prog w=.ok (.slice A n n) w:=by
 have hu:Tryz.prog.underlying 38=some (.slice 5):=by kernel_rfl
 have hs:∀ w,(sizeOf 5).run Tryz.prog w=.ok 1 w:=Tryz.sizeOf5
 have h3:n≤c:=by omega
 cases A with
 |none=>simp[Instr.sliceAt,go_sem,run_underlying hu,hs,h1,h2,h3]
 |some a =>
  by_cases h0:n=0
  ·subst h0;simp[Instr.sliceAt,go_sem,run_underlying hu,hs,h1,h2,h3]
  ·simp[Instr.sliceAt,go_sem,run_underlying hu,hs,h1,h2,h3,h0,Addr.add]
theorem cut_at (p room:Nat) (l:List UInt8) (A:Option Addr) (c:Nat) (n:Nat) (hn:n≤l.length) (w:World) (h:FileAt w p room l A c) :
  Calls Tryz.prog 115 #[.pointer (some ⟨p,0,none⟩),.int .i64 n] w λe w'=>e=.returned (.int .i64 0)∧w.grownBy w' (some p)∧∃ A' c',FileAt w' p room (l.take n) A' c'∧∀ a,A'=some a→w.heap.size≤a.block:=by
 have HC:=Hm (λ(wx:World) (hb:Bel w wx)=>bytes_at p room l A c wx (h.bel hb))
 have H:=Hm h
 have hp:=hlt h.head
 have hn2:¬(l.length:Int) < n:=by omega
 have hn3:¬(n:Int) < 0:=by omega
 clear h
 go_enter Tryz.func115,Tryz.ntmps115
 go_wp2_with fail
 refine(HC.o _ (bR w)).mono ?_
 rintro e w0 ⟨v0,rfl,hb0,ho0⟩
 have HB0:=Hm hb0
 obtain⟨A0,c0',rfl,-⟩:=own_row ho0
 clear ho0 hb0
 go_wp2_with fail
 refine(HC.o _ HB0.o).mono ?_
 rintro e w1 ⟨v,rfl,hb,ho⟩
 have HB:=Hm (bT HB0.o hb)
 have hq:=H.o.bel HB.o
 have HQ:=Hm hq
 have c1:w1.cell? ⟨p,1,none⟩=some (.slice A l.length c):=hcell hq.head 1
 have c2:w1.cell? ⟨p,2,none⟩=some (.slice none 0 0):=hcell hq.head 2
 obtain⟨-,f1,f2⟩:=fF3 hq.head
 have hp1:p < w1.heap.size:=hlt hq.head
 obtain⟨A1,c1',rfl,hrow,-,hfr,hcap,-⟩:=own_row ho
 have HF:=Hm (And.intro hrow (And.intro hfr hcap))
 have hcut:=λw=>run_cut3 A1 l.length c1' n hn hcap w
 have hsz:=HB0.o.size
 clear hb ho hq hrow hfr
 go_wp2
 go_ret
 refine⟨rfl,grownBy_trans (grownBy_below HB.o) (grownBy_trans (grownBy_cell _ _ _ _) (grownBy_cell _ _ _ _)),A1,n,?_,λa ha=>Nat.le_trans hsz (HF.o.2.1 a ha)⟩
 have hne:∀ a,A1=some a→a.block≠p:=λa ha e=>by have:=HF.o.2.1 a ha;omega
 have hnl:(l.take n).length=n:=by rw[List.length_take];omega
 refine⟨?_,?_,by rw[hnl];exact Nat.le_refl _,hne,HQ.o.room,by have:=HQ.o.small;rw[hnl];omega⟩
 ·rw[Go.Joins.block_setCell (Go.Joins.block_setCell HQ.o.head _) _,hnl]
  rfl
 ·exact Row.grown (Row.grown (Bytes.take HF.o.1 n) (grownBy_cell _ _ _ _) (λa ha=>by have:=hne a ha;simpa using this)) (grownBy_cell _ _ _ _) (λa ha=>by have:=hne a ha;simpa using this)
theorem iWrite:EI 177 2 32 (.agg #[.int .i64 0,.slice none 0 0]):=EI.mk (by kernel_rfl) rfl (by omega) (by omega)
theorem write_full (p room:Nat) (l:List UInt8) (A:Option Addr) (c:Nat) (w:World) (h:FileAt w p room l A c) (B:Option Addr) (n cb:Nat) (hn:n≤9000000) (hf:room < l.length+n) :
  Calls Tryz.prog 142 #[.pointer (some ⟨p,0,none⟩),.int .i64 l.length,.slice B n cb] w λe w'=>e=.returned (.int .i64 50)∧Bel w w':=by
 have HC:=Hm (bytes_at p room l A c w h)
 have H:=Hm h
 have hp:=hlt h.head
 have hl:=h.small
 have hr:=h.room
 have hw:IntKind.i64.wrap ((room:Int)-l.length)=(room:Int)-l.length:=by simp[IntKind.wrap,IntKind.bits,IntKind.signed];omega
 have hlt2:(room:Int)-l.length < n:=by omega
 have hn3:¬(l.length:Int) < 0:=by omega
 clear h
 go_enter Tryz.func142,Tryz.ntmps142
 go_wp2_with fail
 refine HC.o.mono ?_
 rintro e w1 ⟨v,rfl,hb,ho⟩
 have HB:=Hm hb
 have hq:=H.o.bel HB.o
 have c0:w1.cell? ⟨p,0,none⟩=some (.int .i64 room):=hcell hq.head 0
 have hp1:p < w1.heap.size:=hlt hq.head
 obtain⟨A1,c1',rfl,-⟩:=own_row ho
 clear hb ho hq
 go_wp2
 go_ret
 exact⟨rfl,HB.o⟩
theorem write_ok (p room:Nat) (l:List UInt8) (A:Option Addr) (c:Nat) (w:World) (h:FileAt w p room l A c) (d:List UInt8) (B:Option Addr) (cb:Nat) (hd:Bytes w B d) (h0:0 < d.length) (hf:l.length+d.length≤room) :
  Calls Tryz.prog 142 #[.pointer (some ⟨p,0,none⟩),.int .i64 l.length,.slice B d.length cb] w λe w'=>e=.returned (.int .i64 0)∧w.grownBy w' (some p)∧∃ gq cq B' cd,FileQ w' p room l A c d gq cq B' cd:=by
 have HC:=Hm (bytes_at p room l A c w h)
 have H:=Hm h
 have HD:=Hm hd
 have hp:=hlt h.head
 have hl:=h.small
 have hr:=h.room
 have hw:IntKind.i64.wrap ((room:Int)-l.length)=(room:Int)-l.length:=by simp[IntKind.wrap,IntKind.bits,IntKind.signed];omega
 have hlt2:¬(room:Int)-l.length < d.length:=by omega
 have hn3:¬(l.length:Int) < 0:=by omega
 have HCl:=Hm (λ(wx:World) (hb:Bel w wx)=>cloneB_any d B cb wx (hd.below hb) (by omega))
 clear h hd
 go_enter Tryz.func142,Tryz.ntmps142
 go_wp2_with fail
 refine HC.o.mono ?_
 rintro e w1 ⟨v,rfl,hb,ho⟩
 have HB:=Hm hb
 have hq:=H.o.bel HB.o
 have c0:w1.cell? ⟨p,0,none⟩=some (.int .i64 room):=hcell hq.head 0
 have c2:w1.cell? ⟨p,2,none⟩=some (.slice none 0 0):=hcell hq.head 2
 have hp1:p < w1.heap.size:=hlt hq.head
 obtain⟨A1,c1',rfl,-⟩:=own_row ho
 clear hb ho hq HC
 go_wp2_with fail
 refine rgn [.rd 0,.rd 1,.rd 2,.rd 3,.rd 4,.rd 5,.rd 6,.hv 7 [0,1,2,3,4,5],.rd 8,.hv 9 [0,1,2,3,4],.hv 10 [0],.rd 11,.rd 12,.hv 13 []] (n:=43) rfl ?_
 iterate 7 (refine line_rd rfl (λK hK=>?_);go_simp;refine hK _ ?_;clear hK K)
 refine line_hv rfl ?_
 go_wp2_with fail
 refine(HCl.o _ (bD HB.o)).mono ?_
 rintro e w2 ⟨v2,rfl,hb2',ho2⟩
 have hb2:Bel w1 w2:=bU hb2'
 obtain⟨A2,cd,rfl,hrow2,-,hfr2,hcap2,-⟩:=own_row ho2
 have HB2:=Hm (bT HB.o hb2)
 have HF2:=Hm (And.intro hrow2 (And.intro hfr2 hcap2))
 replace c2:=bCell hb2 c2
 replace hp1:p < w2.heap.size:=World.block_lt_of_cell? w2 _ c2
 clear hb2 hb2' ho2 hrow2 hfr2 hcap2 c0
 go_wp2_with fail
 refine⟨?_,?_⟩
 ·simp only[Again,slotOf]
  go_simp
 iterate 1 (refine line_rd rfl (λK hK=>?_);go_simp;refine hK _ ?_;clear hK K)
 refine line_hv rfl ?_
 go_wp2_with fail
 refine⟨?_,?_⟩
 ·simp only[Again,slotOf]
  go_simp
 refine line_hv rfl ?_
 refine appW iWrite Tryz.underlying173 rfl (.tmp 34) (.tmp 39) rfl (v:=.slice none 0 0) rfl (own_none _ w2.heap.size 177 2 0 rfl) (show w2.heap.size≤(w2.alloc _).heap.size by simp) (q:=w2.heap.size) rfl (row_new w2 [.int .i64 l.length,.slice A2 d.length cd] 177 (0,0)) (by simp) (by intro u hu;simp at hu;rcases hu with rfl|rfl<;>rfl) (by omega) ?_
 intro v3 w3 ho3 hg3 hw3
 obtain⟨g,cq,rfl,hbg⟩:=own_form ho3 (by omega)
 have hrow3:Row w3 (some ⟨g,0,none⟩) [.int .i64 l.length,.slice A2 d.length cd]:=λj hj=>⟨g,0,rfl,by
  have hj2:j < 2:=by simpa using hj
  rw[Nat.zero_add,ho3.cellAt j (by omega),List.nil_append]
  exact List.getElem?_eq_getElem hj⟩
 have hb3:Bel w2 w3:=bG (bA (bR w2) _) hg3 (λk hk=>by simp[Value.ownBlock] at hk)
 replace c2:=bCell hb3 c2
 replace hp1:p < w3.heap.size:=World.block_lt_of_cell? w3 _ c2
 have hq3:=(H.o.bel (bT HB2.o hb3))
 have f2:=hfree hq3.head 2
 have HB3:=Hm (bT HB2.o hb3)
 have HG3:=Hm (And.intro hbg (And.intro hrow3 hb3))
 have hsz:=HB2.o.size
 clear hg3 hw3 ho3 hrow3 hb3 hq3 hbg
 go_wp2_with fail
 refine⟨?_,?_⟩
 ·simp only[Again,slotOf]
  go_simp
 iterate 2 (refine line_rd rfl (λK hK=>?_);go_simp;refine hK _ ?_;clear hK K)
 refine line_hv rfl ?_
 go_wp2_with fail
 refine⟨?_,?_⟩
 ·exact trivial
 unfold Line
 go_wp2
 go_ret
 have hgp:g≠p:=by have:=HG3.o.1;omega
 have hne2:∀ a,A2=some a→a.block≠p:=λa ha e=>by have h1:w1.heap.size≤a.block:=HF2.o.2.1 a ha;have:=HB.o.size;omega
 refine⟨rfl,grownBy_trans (grownBy_below HB3.o) (grownBy_cell _ _ _ _),g,cq,A2,cd,?_⟩
 have hF:=H.o.bel HB3.o
 refine⟨?_,Row.grown hF.sure (grownBy_cell _ _ _ _) (λa ha=>by have:=hF.apart a ha;simpa using this),hF.cap,hF.apart,hF.room,by omega,?_,?_,HF2.o.2.2,h0,hgp,hne2⟩
 ·rw[Go.Joins.block_setCell hF.head _]
  rfl
 ·refine Row.grown (row:=some p) ?_ (grownBy_cell _ _ _ _) (λa ha=>by cases ha;simpa using hgp)
  simpa using HG3.o.2.1
 ·exact Row.grown (Bytes.below HF2.o.1 HG3.o.2.2) (grownBy_cell _ _ _ _) (λa ha=>by have:=hne2 a ha;simpa using this)
def kB8:Kd UInt8 where
 size:=1
 pos:=Nat.one_pos
 K:=λw ok x cs=>cs=[byteV x]
 len:=λh=>by rw[h];rfl
 one:=λh u hu=>by rw[h] at hu;simp at hu;subst hu;rfl
 stay:=λ_ h=>h
abbrev kBy:Kd (List UInt8):=Kd.slice kB8
theorem all_b8 {w:World} {ok:Nat→Prop}:∀ {l:List UInt8} {vs:List Value},kB8.All w ok l vs↔vs=l.map byteV
 |[],vs=>Iff.rfl
 |x :: r,vs=>by
  constructor
  ·rintro ⟨cs,rest,rfl,rfl,h⟩
   rw[all_b8.1 h];rfl
  ·rintro rfl
   exact⟨[byteV x],_,rfl,rfl,all_b8.2 rfl⟩
theorem sk_bytes {w:World} {ok:Nat→Prop} {l:List UInt8} {v:Value} (h:Kd.SK kB8 w ok l v):∃ A c,v=.slice A l.length c∧l.length≤c∧Bytes w A l∧(0 < l.length→∀ a,A=some a→ok a.block):=by
 obtain⟨A,c,vs,rfl,h2,h3,h4,h5⟩:=h
 obtain rfl:=all_b8.1 h5
 refine⟨A,c,rfl,h2,h4.row,λh0 a ha=>?_⟩
 obtain⟨b,off,e,hk,_⟩:=h4 0 (by simpa using h0)
 rw[ha] at e
 cases e
 exact hk
theorem bytes_sk {w:World} {ok:Nat→Prop} {l:List UInt8} {A:Option Addr} {c:Nat} (h:Bytes w A l) (hc:l.length≤c) (hm:c≤maxLen) (hA:∀ a,A=some a→ok a.block):Kd.SK kB8 w ok l (.slice A l.length c) :=
 ⟨A,c,_,rfl,hc,hm,RowIn.of h hA,all_b8.2 rfl⟩
def Where (w:World) (v v':Value):Prop:=v'.ownBlock=v.ownBlock∨∀ g,v'.ownBlock=some g→w.heap.size≤g
theorem run_end (t e k:Nat) (hu:Tryz.prog.underlying t=some (.slice e)) (hs:∀ w,(sizeOf e).run Tryz.prog w=.ok k w) (A:Option Addr) (n c:Nat) (h:n≤c):∃ V,∀ w,(Instr.sliceAt t (.slice A n c) (some (.int .i64 n)) none none).run Tryz.prog w=.ok V w:=by
 cases A with
 |none=>exact⟨_,λw=>by simp[Instr.sliceAt,Instr.slice,Instr.sliceBounds,Instr.sliceBound,go_sem,run_underlying hu,hs,h];rfl⟩
 |some a =>
  by_cases h0:c=n
  ·exact⟨_,λw=>by simp[Instr.sliceAt,Instr.slice,Instr.sliceBounds,Instr.sliceBound,go_sem,run_underlying hu,hs,h,h0];rfl⟩
  ·exact⟨_,λw=>by simp[Instr.sliceAt,Instr.slice,Instr.sliceBounds,Instr.sliceBound,go_sem,run_underlying hu,hs,h,h0];rfl⟩
theorem ins_end_i (l:List Int) (x:Int) (base:Nat) (v:Value) (q:Nat) (w:World) (hv:OwnI w base v l) (hbase:base≤w.heap.size) (hq:Row w (some ⟨q,0,none⟩) [.int .i64 x]) (hl:l.length≤100000) :
  Calls Tryz.prog 143 #[v,.int .i64 l.length,.slice (some ⟨q,0,none⟩) 1 1] w λe w'=>∃ v',e=.returned v'∧OwnI w' base v' (l++[x])∧w.grownBy w' v.ownBlock∧Where w v v':=by
 have HV:=Hm hv
 have HR:=Hm hq
 obtain⟨A,c,rfl,-,-,-,hcap,hmx⟩:=own_row hv
 obtain⟨V,hV⟩:=run_end 29 3 1 Tryz.underlying29 Tryz.sizeOf3 A l.length c hcap
 clear hv hq
 go_enter Tryz.func143,Tryz.ntmps143
 go_wp2_with (first
  |(at_builtin;refine appW iInt Tryz.underlying29 rfl (.tmp 23) (.tmp 24) rfl (v:=.slice A l.length c) rfl HV.o hbase (q:=q) rfl HR.o (by simp) (by intro u hu;simp at hu;subst hu;rfl) (by omega) ?_;intro v3 w3 ho3 hg3 hw3)
  |fail)
 have HF:Hd (OwnI w3 base v3 (l++[x])∧w.grownBy w3 (Value.slice A l.length c).ownBlock∧Where w (.slice A l.length c) v3):=⟨by unfold OwnI;simpa using ho3,hg3,by
  rcases hw3 with h|h
  ·exact .inl h
  ·exact .inr λg hg=>by rw[h] at hg;cases hg;exact Nat.le_refl _⟩
 clear ho3 hg3 hw3
 go_wp2
 go_ret
 exact⟨_,rfl,HF.o⟩
theorem iBy:EI 38 1 24 (.slice none 0 0):=EI.mk (by kernel_rfl) rfl (by omega) (by omega)
theorem ins_end_b (l:List (List UInt8)) (x:List UInt8) (base:Nat) (ok:Nat→Prop) (v y:Value) (q:Nat) (w:World) (hv:KRow kBy w base 38 ok l v) (hbase:base≤w.heap.size) (hq:Row w (some ⟨q,0,none⟩) [y]) (hy:Kd.SK kB8 w ok x y) (hl:l.length≤100000) :
  Calls Tryz.prog 144 #[v,.int .i64 l.length,.slice (some ⟨q,0,none⟩) 1 1] w λe w'=>∃ v',e=.returned v'∧KRow kBy w' base 38 ok (l++[x]) v'∧w.grownBy w' v.ownBlock∧Where w v v':=by
 have HV:=Hm hv
 have HR:=Hm hq
 have HY:=Hm hy
 obtain⟨A,c,rfl,hcap,-,-⟩:=hv.form
 obtain⟨V,hV⟩:=run_end 185 38 1 Tryz.underlying185 Tryz.sizeOf38 A l.length c hcap
 clear hv hq hy
 go_enter Tryz.func144,Tryz.ntmps144
 go_wp2_with (first
  |(at_builtin;refine appK iBy Tryz.underlying185 rfl (.tmp 23) (.tmp 24) rfl (v:=.slice A l.length c) rfl HV.o hbase (q:=q) rfl HR.o ⟨y,rfl,HY.o⟩ (by omega) ?_;intro v3 w3 ho3 hg3 hw3)
  |fail)
 have HF:Hd (KRow kBy w3 base 38 ok (l++[x]) v3∧w.grownBy w3 (Value.slice A l.length c).ownBlock∧Where w (.slice A l.length c) v3):=⟨ho3,hg3,by
  rcases hw3 with h|h
  ·exact .inl h
  ·exact .inr λg hg=>by rw[h] at hg;cases hg;exact Nat.le_refl _⟩
 clear ho3 hg3 hw3
 go_wp2
 go_ret
 exact⟨_,rfl,HF.o⟩
theorem countP_rise:∀ (l:List Int) (i:Nat) (hi:i < l.length),l.Pairwise (· < ·)→l.countP (· < l[i])=i
 |[],i,hi,_=>absurd hi (by simp)
 |x :: r,0,_,h=>by
  rw[List.pairwise_cons] at h
  rw[List.getElem_cons_zero,List.countP_eq_zero]
  intro y hy
  rcases List.mem_cons.1 hy with rfl|hy
  ·simp
  ·have:=h.1 y hy;simp;omega
 |x :: r,i+1,hi,h=>by
  rw[List.pairwise_cons] at h
  have hi':i < r.length:=by simpa using hi
  have hx:=h.1 r[i] (List.getElem_mem hi')
  rw[List.getElem_cons_succ,List.countP_cons,countP_rise r i hi' h.2]
  simp[hx]
theorem countP_all (l:List Int) (x:Int) (h:∀ y∈l,y < x):l.countP (· < x)=l.length:=by
 rw[List.countP_eq_length]
 intro y hy
 simpa using h y hy
theorem bsearch_any (l:List Int) (A:Option Addr) (c:Nat) (x:Int) (w:World) (h:Ints w A l) (hs:l.Pairwise (· < ·)) (hl:l.length≤100000) :
  Calls Tryz.prog 121 #[.slice A l.length c,.int .i64 x] w λe w'=>e=.returned (.tuple #[.int .i64 (l.countP (· < x):Nat),.bool (l.contains x)])∧Bel w w':=by
 rcases l with _|⟨y,r⟩
 ·refine(Tryz.slices_BinarySearch_int_empty A c x w).mono ?_
  rintro e w' ⟨rfl,rfl⟩
  exact⟨rfl,bR _⟩
 ·obtain⟨b,off,rfl,_⟩:=h 0 (by simp)
  have hh:=Tryz.slices_BinarySearch_int b off (y :: r).length c (y :: r) x w (Nat.le_refl _) (by omega) (by
   intro j hj
   obtain⟨b',off',e,hc⟩:=ints_get h j hj
   cases e
   rw[hc,List.getD_eq_getElem?_getD,List.getElem?_eq_getElem hj]
   rfl) (by rw[List.take_length];exact hs.imp λh=>by omega)
  rw[List.take_length] at hh
  refine hh.mono ?_
  rintro e w' ⟨rfl,n,rfl⟩
  exact⟨rfl,bN (bR w) n⟩
structure TabB (w:World) (p o base:Nat) (ok:Nat→Prop) (keys:List Int) (vals:List (List UInt8)) (kv vv:Value):Prop where
 c0:w.cell? ⟨p,o,none⟩=some kv
 c1:w.cell? ⟨p,o+1,none⟩=some vv
 krow:OwnI w base kv keys
 vrow:KRow kBy w base 38 ok vals vv
 len:keys.length=vals.length
 rise:keys.Pairwise (· < ·)
 few:keys.length≤1000
section
variable {w w':World} {p o base:Nat} {ok:Nat→Prop} {keys:List Int} {vals:List (List UInt8)} {kv vv:Value}
theorem TabB.bel (h:TabB w p o base ok keys vals kv vv) (hb:Bel w w'):TabB w' p o base ok keys vals kv vv :=
 ⟨bCell hb h.c0,bCell hb h.c1,own_below h.krow hb,h.vrow.bel hb,h.len,h.rise,h.few⟩
theorem TabB.lt (h:TabB w p o base ok keys vals kv vv):p < w.heap.size:=World.block_lt_of_cell? w _ h.c0
end
theorem sk_by {w:World} {ok:Nat→Prop} {l:List (List UInt8)} {v:Value} (h:Kd.SK kBy w ok l v) (j:Nat) (hj:j < l.length):∃ b off c v1,v=.slice (some ⟨b,off,none⟩) l.length c∧ok b∧Kd.SK kB8 w ok l[j] v1∧w.cell? ⟨b,off+j,none⟩=some v1:=by
 obtain⟨b,off,c,cs,rfl,_,ho,_,⟨v1,rfl,hs⟩,hc⟩:=h.at_ j hj
 have h0:=hc 0 Nat.one_pos
 refine⟨b,off,c,v1,rfl,ho,hs,?_⟩
 have e:kBy.size=1:=rfl
 rw[e,Nat.mul_one,Nat.add_zero] at h0
 exact h0
theorem get_none (p o base:Nat) (ok:Nat→Prop) (keys:List Int) (vals:List (List UInt8)) (kv vv:Value) (k:Int) (w:World) (h:TabB w p o base ok keys vals kv vv) (hk:k∉keys) :
  Calls Tryz.prog 85 #[.pointer (some ⟨p,o,none⟩),.int .i64 k] w λe w'=>e=.returned (.tuple #[.slice none 0 0,.bool false])∧Bel w w':=by
 obtain⟨A,c,rfl,hr,-⟩:=own_row h.krow
 have HB:=Hm (bsearch_any keys A c k w hr h.rise (by have:=h.few;omega))
 rw[show keys.contains k=false by simpa using hk] at HB
 have c0:=h.c0
 have hp:=h.lt
 clear h hr hk
 go_enter Tryz.func85,Tryz.ntmps85
 go_wp2_with fail
 refine HB.o.mono ?_
 rintro e w1 ⟨rfl,hb⟩
 have HB1:=Hm hb
 clear hb c0
 go_wp2
 go_ret2
 exact⟨rfl,HB1.o⟩
theorem get_some (p o base:Nat) (ok:Nat→Prop) (keys:List Int) (vals:List (List UInt8)) (kv vv:Value) (i:Nat) (hi:i < keys.length) (hv:i < vals.length) (w:World) (h:TabB w p o base ok keys vals kv vv) :
  Calls Tryz.prog 85 #[.pointer (some ⟨p,o,none⟩),.int .i64 keys[i]] w λe w'=>Bel w w'∧∃ v,e=.returned (.tuple #[v,.bool true])∧Kd.SK kB8 w' (λb=>ok b∨some b=vv.ownBlock) vals[i] v:=by
 obtain⟨A,c,rfl,hr,-⟩:=own_row h.krow
 have HB:=Hm (bsearch_any keys A c keys[i] w hr h.rise (by have:=h.few;omega))
 rw[countP_rise keys i hi h.rise,show keys.contains keys[i]=true by simp] at HB
 have H:=Hm h
 have c0:=h.c0
 have hp:=h.lt
 clear h hr
 generalize keys[i]=k at *
 go_enter Tryz.func85,Tryz.ntmps85
 go_wp2_with fail
 refine HB.o.mono ?_
 rintro e w1 ⟨rfl,hb⟩
 have h1:=H.o.bel hb
 have HB1:=Hm hb
 have c1:=h1.c1
 have hp1:=h1.lt
 obtain⟨b,off,cc,v1,rfl,-,hs,z0⟩:=sk_by h1.vrow.sk i hv
 obtain⟨A1,c1',rfl,-⟩:=sk_bytes hs
 have HS:=Hm hs
 have hil:i < vals.length:=hv
 clear hb c0 h1 hs
 go_wp2
 go_ret2
 exact⟨HB1.o,_,rfl,HS.o⟩
end Go.Proofs.YtjkgligohegaeaaGreatDoor
