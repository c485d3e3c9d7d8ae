/- Lemmas of the row. -/
import Derived.Test.YtjkgligohegaeaaGreatDoorN07
set_option linter.all false
set_option maxRecDepth 20000
set_option maxHeartbeats 12800000
namespace Go.Proofs.YtjkgligohegaeaaGreatDoor
open Go.RowKit
theorem ins_fits {i:Ins} (h:InsFine i) (hp:InsPlain i):i.Fits:=by
 have h1:=h.op;have h2:=h.d;have h3:=h.a;have h4:=h.b;have h5:=h.n;have h6:=h.k1;have h7:=h.k8;have h8:=hp.op3
 exact⟨wf8.2 (by omega),wf8.2 (by omega),wf64.2 (by omega),wf64.2 (by omega),wf64.2 (by omega),wf64.2 (by omega)⟩
theorem end_fits {e:End} (h:EndFine e):e.Fits:=by
 have h1:=h.k1;have h2:=h.k3;have h3:=h.a;have h4:=h.to_;have h5:=h.else_
 exact⟨wf8.2 (by omega),wf64.2 (by omega),wf64.2 (by omega),wf64.2 (by omega)⟩
theorem args_wf {i:Ins} (h:InsFine i):∀ n∈i.args,(Lit.int .i64 n).wf=true:=λn hn=>by
 have:=h.args n hn
 exact wf64.2 (by omega)
structure RB (w X:World) (p bi:Nat) (l:List UInt8) (okO:Nat→Prop) (xs:List Block) (v:Value) (okI:Nat→Prop) (ys:List Ins) (vI:Value):Prop where
 grown:w.grownBy X (some p)
 rd:RdAt X p l 0
 pw:p < w.heap.size
 wb:w.heap.size≤bi
 bx:bi < X.heap.size
 o:KRow kBlock X w.heap.size 97 okO xs v
 okO:∀ b,okO b→w.heap.size≤b∧b < bi
 ownO:∀ b,v.ownBlock=some b→b < bi
 var:X.heap[bi]?=some (.cells ([vI,.int .u8 0,.int .i64 0,.int .i64 0,.int .i64 0]:List Value).toArray 97 (0,0))
 inn:KRow kIns X (bi+1) 91 okI ys vI
 okI:∀ b,okI b→bi < b
section
variable {w X X':World} {p bi:Nat} {l l':List UInt8} {okO okI okI':Nat→Prop} {xs:List Block} {v vI vI':Value} {ys ys':List Ins}
theorem RB.step (h:RB w X p bi l okO xs v okI ys vI) (hs:RdStep X X' p l' 0):RB w X' p bi l' okO xs v okI ys vI:=by
 have h1:=h.pw
 have h2:=h.wb
 have h3:=h.bx
 exact { h with
  grown:=grownBy_trans h.grown hs.grown
  rd:=hs.rd
  bx:=Nat.lt_of_lt_of_le h3 hs.grown.size
  o:=h.o.stay hs.grown (.inl λe=>by have:=(h.o.lt_own p e).1;omega) (λb hb e=>by have:=(h.okO b hb).1;simp at e;omega)
  var:=by rw[hs.grown.block bi (by omega) (by simp;omega)];exact h.var
  inn:=h.inn.stay hs.grown (.inl λe=>by have:=(h.inn.lt_own p e).1;omega) (λb hb e=>by have:=h.okI b hb;simp at e;omega) }
theorem RB.bel (h:RB w X p bi l okO xs v okI ys vI) (hb:Bel X X'):RB w X' p bi l okO xs v okI ys vI:=by
 have h3:=h.bx
 exact { h with
  grown:=grownBy_trans h.grown (grownBy_below hb)
  rd:=h.rd.below hb
  bx:=Nat.lt_of_lt_of_le h3 hb.size
  o:=h.o.bel hb
  var:=bHeap hb h.var
  inn:=h.inn.bel hb }
theorem RB.push (h:RB w X p bi l okO xs v okI ys vI) (hg:X.grownBy X' vI.ownBlock) (hi:KRow kIns X' (bi+1) 91 okI' ys' vI') (ho:∀ b,okI' b→bi < b):RB w (X'.setCell ⟨bi,0,none⟩ vI') p bi l okO xs v okI' ys' vI':=by
 have h1:=h.pw
 have h2:=h.wb
 have h3:=h.bx
 have hr:∀ k,vI.ownBlock=some k→bi < k:=λk hk=>(h.inn.lt_own k hk).1
 have hvar:X'.heap[bi]?=some (.cells ([vI,.int .u8 0,.int .i64 0,.int .i64 0,.int .i64 0]:List Value).toArray 97 (0,0)):=by
  rw[hg.block bi (by omega) (λe=>by have:=hr bi e.symm;omega)];exact h.var
 have hst:=grownBy_cell X' bi 0 vI'
 exact { h with
  grown:=grown_set (grown_own h.grown hg (λk hk=>by have:=hr k hk;omega)) h2 0 vI'
  rd:=(h.rd.growN (λk hk=>by have:=hr k hk;omega) hg).set (by omega) 0 vI'
  bx:=by have:=hg.size;simp;omega
  o:=(h.o.stay hg (by
    cases hv:vI.ownBlock with
    |none=>cases ho:v.ownBlock with
     |none=>exact .inr rfl
     |some g=>exact .inl (by simp)
    |some g=>exact .inl (λe=>by have:=h.ownO g e;have:=hr g hv;omega)) (λb hb e=>by have:=(h.okO b hb).2;have:=hr b e.symm;omega)).stay hst (.inl λe=>by have:=h.ownO bi e;omega) (λb hb e=>by have:=(h.okO b hb).2;simp at e;omega)
  var:=by have:=set_at hvar 0 vI';simpa using this
  inn:=hi.stay hst (.inl λe=>by have:=(hi.lt_own bi e).1;omega) (λb hb e=>by have:=ho b hb;simp at e;omega)
  okI:=ho }
end
theorem RB.fin {w X:World} {p bi:Nat} {l:List UInt8} {okO okI:Nat→Prop} {xs:List Block} {v vI:Value} {ys:List Ins} (h:RB w X p bi l okO xs v okI ys vI) (a1 a2 a3 a4:Value) :
  let X2:=(((X.setCell ⟨bi,1,none⟩ a1).setCell ⟨bi,2,none⟩ a2).setCell ⟨bi,3,none⟩ a3).setCell ⟨bi,4,none⟩ a4
  w.grownBy X2 (some p)∧RdAt X2 p l 0∧KRow kBlock X2 w.heap.size 97 okO xs v∧X2.heap[bi]?=some (.cells ([vI,a1,a2,a3,a4]:List Value).toArray 97 (0,0))∧KRow kIns X2 (bi+1) 91 okI ys vI∧bi < X2.heap.size:=by
 have h1:=h.pw
 have h2:=h.wb
 have ho:∀ (Y:World) (k:Nat) (a:Value),KRow kBlock Y w.heap.size 97 okO xs v→KRow kBlock (Y.setCell ⟨bi,k,none⟩ a) w.heap.size 97 okO xs v:=λY k a hY =>
  hY.stay (grownBy_cell Y bi k a) (.inl λe=>by have:=h.ownO bi e;omega) (λb hb e=>by have:=(h.okO b hb).2;simp at e;omega)
 have hi:∀ (Y:World) (k:Nat) (a:Value),KRow kIns Y (bi+1) 91 okI ys vI→KRow kIns (Y.setCell ⟨bi,k,none⟩ a) (bi+1) 91 okI ys vI:=λY k a hY =>
  hY.stay (grownBy_cell Y bi k a) (.inl λe=>by have:=(hY.lt_own bi e).1;omega) (λb hb e=>by have:=h.okI b hb;simp at e;omega)
 have hr:∀ (Y:World) (k:Nat) (a:Value),RdAt Y p l 0→RdAt (Y.setCell ⟨bi,k,none⟩ a) p l 0:=λY k a hY=>hY.set (by omega) k a
 refine⟨grown_set (grown_set (grown_set (grown_set h.grown h2 _ _) h2 _ _) h2 _ _) h2 _ _,hr _ _ _ (hr _ _ _ (hr _ _ _ (hr _ _ _ h.rd))),ho _ _ _ (ho _ _ _ (ho _ _ _ (ho _ _ _ h.o))),?_,hi _ _ _ (hi _ _ _ (hi _ _ _ (hi _ _ _ h.inn))),by simpa using h.bx⟩
 have:=set_at (set_at (set_at (set_at h.var 1 a1) 2 a2) 3 a3) 4 a4
 simpa using this
theorem flat_drop {α:Type} (f:α→List UInt8) (l:List α) (j:Nat) (h:j < l.length):(l.drop j).flatMap f=f l[j]++(l.drop (j+1)).flatMap f:=by
 rw[List.drop_eq_getElem_cons h,List.flatMap_cons]
theorem rblocks_any (p:Nat) (rest:List UInt8) (ls:List Block) (most:Nat) (hm:most≤400) (hlen:∀ b∈ls,b.ins.length≤most) (hf:∀ b∈ls,BlockFine b) (hpl:∀ b∈ls,∀ i∈b.ins,InsPlain i) (hend:∀ b∈ls,∃ v n,EndOk v n b.fin) (h16:ls.length≤16)
  (w:World) (h:RdAt w p (encBlocks ls++rest) 0) (hl:(encBlocks ls++rest).length≤10000000) :
  Calls Tryz.prog 87 #[.pointer (some ⟨p,0,none⟩),.int .i64 most] w λe w'=>RdStep w w' p rest 0∧∃ v ok,e=.returned v∧KRow kBlock w' w.heap.size 97 ok ls v∧∀ b,ok b→w.heap.size≤b:=by
 have hp:=h.lt
 have HB:=Hm (And.intro hlen (And.intro hf (And.intro hpl hend)))
 have e0:encBlocks ls++rest=leb ls.length++(ls.flatMap encBlock++rest):=by simp[encBlocks,flatL]
 rw[e0] at h hl
 have HRd:=Hm h
 have HL:=Hm hl
 have hl2:(ls.flatMap encBlock++rest).length≤10000000:=by simp only[List.length_append] at hl⊢;omega
 have HL2:=Hm hl2
 clear h hl hl2 hlen hf hpl hend e0
 go_enter Tryz.func87,Tryz.ntmps87
 go_wp2_with fail
 refine(below_leb p ls.length _ 17 w HRd.o (by omega) (by omega) HL.o).mono ?_
 rintro e w0 ⟨rfl,hs⟩
 have HS0:=Hm hs
 clear hs
 go_wp2_with fail
 go_loopw [5,9] (λv i wr=>∃ (j:Nat) (ok:Nat→Prop),j≤ls.length∧i=.int .i64 j∧w.grownBy wr (some p)∧RdAt wr p ((ls.drop j).flatMap encBlock++rest) 0∧KRow kBlock wr w.heap.size 97 ok (ls.take j) v∧∀ b,ok b→w.heap.size≤b) (λ_ i _=>ls.length-(intOf i).toNat)
 case atStart=>exact⟨0,λ_=>False,Nat.zero_le _,rfl,HS0.o.grown,by simpa using HS0.o.rd,by simpa using KRow.none w0 w.heap.size 97 (λ_=>False) (λ_ h=>h.elim),λ_ h=>h.elim⟩
 case round =>
  obtain⟨j,ok,hj,rfl,hg,hrd,hk,hok⟩:=hrel
  have HG:=Hm hg
  have HD:=Hm hrd
  have HK:=Hm hk
  have HOk:=Hm hok
  obtain⟨A5,c5,rfl,-,-,hA5⟩:=hk.form
  have hlj:(ls.take j).length=j:=by simp;omega
  rw[hlj] at HK
  clear hlj
  clear hg hrd hk hok
  by_cases hlt:j < ls.length
  ·have hd:=flat_drop encBlock ls j hlt
   have ht:ls.take (j+1)=ls.take j++[ls[j]]:=take_snoc' ls j hlt
   have hx1:=HB.o.1 _ (List.getElem_mem hlt)
   have hx2:=HB.o.2.1 _ (List.getElem_mem hlt)
   have hx3:=HB.o.2.2.1 _ (List.getElem_mem hlt)
   have hx4:=HB.o.2.2.2 _ (List.getElem_mem hlt)
   have hlx:((ls.drop j).flatMap encBlock++rest).length≤10000000:=by
    have h1:ls.flatMap encBlock=(ls.take j).flatMap encBlock++(ls.drop j).flatMap encBlock:=by rw[←List.flatMap_append,List.take_append_drop]
    have h2:=HL2.o
    rw[h1] at h2
    simp only[List.length_append] at h2⊢
    omega
   generalize ls[j]=x at *
   obtain⟨R,hR⟩:∃ R,encEnd x.fin++((ls.drop (j+1)).flatMap encBlock++rest)=R:=⟨_,rfl⟩
   have hdr:(ls.drop j).flatMap encBlock++rest=leb x.ins.length++(x.ins.flatMap encIns++R):=by rw[hd,←hR];simp[encBlock,flatL]
   rw[hdr] at HD hlx
   have HX:=Hm (And.intro hx2 (And.intro hx3 hx4))
   have HT:=Hm ht
   have HRE:=Hm hR
   have HLX:=Hm hlx
   have hlx2:(x.ins.flatMap encIns++R).length≤10000000:=by simp only[List.length_append] at hlx⊢;omega
   have HLX2:=Hm hlx2
   clear hd ht hx2 hx3 hx4 hR hdr hlx hlx2
   have hpr:p < wr.heap.size:=HD.o.lt
   have hmm:x.ins.length < most+1:=by omega
   obtain⟨bi,hbi⟩:∃ bi,bi=wr.heap.size:=⟨_,rfl⟩
   obtain⟨X0,hX0⟩:∃ X0,X0=wr.alloc (.cells #[.slice none 0 0,.int .u8 0,.int .i64 0,.int .i64 0,.int .i64 0] 97):=⟨_,rfl⟩
   have hrb:RB w X0 p bi (leb x.ins.length++(x.ins.flatMap encIns++R)) ok (ls.take j) (.slice A5 j c5) (λ_=>False) [] (.slice none 0 0):=by
    subst hbi hX0
    exact {
     grown:=grownBy_trans HG.o (grownBy_below (bA (bR _) _))
     rd:=HD.o.below (bA (bR _) _)
     pw:=hp
     wb:=HG.o.size
     bx:=by simp
     o:=HK.o.bel (bA (bR _) _)
     okO:=λb hb=>⟨HOk.o b hb,HK.o.lt b hb⟩
     ownO:=λb hb=>(HK.o.lt_own b hb).2
     var:=heap_new _ _
     inn:=KRow.none _ _ _ _ (λ_ h=>h.elim)
     okI:=λ_ h=>h.elim }
   have HRB:=Hm hrb
   clear hrb hA5
   have hcast:IntKind.i64.wrap ((most:Int)+1)=((most+1:Nat):Int):=by rw[Go.IntWalk.i64_in _ (by omega)];omega
   have hcall:=below_leb p x.ins.length (x.ins.flatMap encIns++R) (most+1) X0 HRB.o.rd hmm (by omega) HLX.o
   have HCall:=Hm hcall
   clear hcall hcast
   go_wp2_with fail
   rw[←hX0,←hbi]
   clear hX0 hbi
   rw[show ((most:Int)+1)=((most+1:Nat):Int) from by omega]
   refine HCall.o.mono ?_
   rintro e X1 ⟨rfl,hs⟩
   have HR1:=Hm (HRB.o.step hs)
   clear hs HRB HCall
   go_wp2_with fail
   obtain⟨wo,rfl⟩:∃ wo:World,wo=wr:=⟨_,rfl⟩
   have hx400:x.ins.length≤400:=by omega
   go_loopw [15] (λi wr=>∃ (k:Nat) (okI:Nat→Prop) (vI:Value),k≤x.ins.length∧i=.int .i64 k∧RB w wr p bi ((x.ins.drop k).flatMap encIns++R) ok (ls.take j) (.slice A5 j c5) okI (x.ins.take k) vI) (λi _=>x.ins.length-(intOf i).toNat)
   case atStart=>exact⟨0,_,_,Nat.zero_le _,rfl,by simpa using HR1.o⟩
   case round =>
    obtain⟨k,okI,vI,hk,rfl,hr⟩:=hrel
    have HR:=Hm hr
    obtain⟨A6,c6,rfl,-,-,hA6⟩:=hr.inn.form
    have HA6:=Hm hA6
    clear hr hA6
    have hlk:(x.ins.take k).length=k:=by simp;omega
    rw[hlk] at HR
    clear hlk
    by_cases hkt:k < x.ins.length
    ·have hd:=flat_drop encIns x.ins k hkt
     have ht:x.ins.take (k+1)=x.ins.take k++[x.ins[k]]:=take_snoc' x.ins k hkt
     have hy1:=HX.o.1.ins _ (List.getElem_mem hkt)
     have hy2:=HX.o.2.1 _ (List.getElem_mem hkt)
     have hly:((x.ins.drop k).flatMap encIns++R).length≤10000000:=by
      have h1:x.ins.flatMap encIns=(x.ins.take k).flatMap encIns++(x.ins.drop k).flatMap encIns:=by rw[←List.flatMap_append,List.take_append_drop]
      have h2:=HLX2.o
      rw[h1] at h2
      simp only[List.length_append] at h2⊢
      omega
     generalize x.ins[k]=y at *
     rw[hd,List.append_assoc] at HR hly
     have HCode:=Hm (λW=>code_rd p (encIns y++((x.ins.drop (k+1)).flatMap encIns++R)) 0 W)
     have HIns:=Hm (λW hW=>ins_any p ((x.ins.drop (k+1)).flatMap encIns++R) y hy1 hy2 W hW hly)
     have HT2:=Hm ht
     have HY:=Hm (And.intro hy1 hy2)
     clear hd ht hy1 hy2 hly
     go_wp2_with fail
     refine(HCode.o _ HR.o.rd).mono ?_
     rintro e W' ⟨rfl,rfl⟩
     go_wp2_with fail
     have v0:W'.cell? ⟨bi,0,none⟩=some (.slice A6 k c6):=by rw[cell_at HR.o.var];rfl
     refine rgn [.rd 0,.rd 1,.rd 2,.hv 3 [0,1],.hv 4 [0,1],.hv 5 [],.rd 6,.hv 7 []] (n:=40) rfl ?_
     iterate 3 (refine line_rd rfl (λK hK=>?_);go_simp;refine hK _ ?_;clear hK K)
     refine line_hv rfl ?_
     go_wp2_with fail
     have HRd0:=Hm (HR.o.bel (bD (bR _)))
     refine(HIns.o _ HRd0.o.rd).mono ?_
     rintro e X2 ⟨hs,va,rfl,hoa⟩
     have HR2:=Hm (HRd0.o.step hs)
     have hz2:bi < W'.heap.size:=HR.o.bx
     have HOa:=Hm hoa
     obtain⟨Aa,ca,rfl,-,hla,-,-,-⟩:=own_row hoa
     have hzz:W'.heap.size≤X2.heap.size:=hs.grown.size
     have v1:X2.cell? ⟨bi,0,none⟩=some (.slice A6 k c6):=by rw[cell_at HR2.o.var];rfl
     have hbx:bi < X2.heap.size:=by omega
     have hK2:KRow kIns X2 (bi+1) 91 (λb=>okI b∨some b=(Value.slice Aa y.args.length ca).ownBlock) (x.ins.take k) (.slice A6 k c6):=by
      refine HR2.o.inn.more (λb hb=>.inl hb) ?_ ?_
      ·rintro b (hb|hb)
       ·exact HR2.o.inn.apart b hb
       ·intro e
        have h1:=(HR.o.inn.lt_own b e.symm).2
        have h2:W'.heap.size≤b:=(HOa.o.lt b hb.symm).1
        omega
      ·rintro b (hb|hb)
       ·exact HR2.o.inn.lt b hb
       ·exact(HOa.o.lt b hb.symm).2
     have hcell:kIns.K X2 (λb=>okI b∨some b=(Value.slice Aa y.args.length ca).ownBlock) y [.int .u8 y.kind,.int .u8 y.op,.int .i64 y.d,.int .i64 y.a,.int .i64 y.b,.int .i64 y.n,.slice Aa y.args.length ca] :=
      kIns_mk (ins_fits HY.o.1 HY.o.2) ((ski_own HOa.o (args_wf HY.o.1)).stay (Stays.weaken λb hb=>.inr hb))
     have HK2:=Hm (And.intro hK2 hcell)
     have hokI:∀ b,(okI b∨some b=(Value.slice Aa y.args.length ca).ownBlock)→bi < b:=by
      rintro b (hb|hb)
      ·exact HR2.o.okI b hb
      ·have h2:W'.heap.size≤b:=(HOa.o.lt b hb.symm).1
       omega
     have HOkI:=Hm hokI
     clear hs hoa hla hK2 hcell hokI v0 hzz hz2
     unfold insV
     go_wp2_with fail
     refine⟨?_,?_⟩
     ·simp only[Again,slotOf]
      go_simp
     refine line_hv rfl ?_
     go_wp2_with fail
     refine⟨?_,?_⟩
     ·simp only[Again,slotOf]
      go_simp
     refine line_hv rfl ?_
     have htk:(x.ins.take k).length≤400:=by simp;omega
     refine appK iIns Tryz.underlying92 rfl (.tmp 21) (.tmp 24) rfl rfl (HK2.o.1.bel (bA (bR _) (.cells #[.int .u8 y.kind,.int .u8 y.op,.int .i64 y.d,.int .i64 y.a,.int .i64 y.b,.int .i64 y.n,.slice Aa y.args.length ca] 91))) (show bi+1≤(X2.alloc _).heap.size by simp;omega) (q:=X2.heap.size) rfl (row_new _ _ _ _) (kIns.stay (Stays.below (bA (bR _) _)) HK2.o.2) (show ((x.ins.take k).length+1)*64≤140737488355328 by omega) ?_
     intro v5 X5 hk5 hg5 hw5
     rw[←HT2.o] at hk5
     have hr5:=(HR2.o.bel (bA (bR _) (.cells #[.int .u8 y.kind,.int .u8 y.op,.int .i64 y.d,.int .i64 y.a,.int .i64 y.b,.int .i64 y.n,.slice Aa y.args.length ca] 91))).push hg5 hk5 HOkI.o
     have hvar5:X5.heap[bi]?=some (.cells ([.slice A6 k c6,.int .u8 0,.int .i64 0,.int .i64 0,.int .i64 0]:List Value).toArray 97 (0,0)):=by
      rw[hg5.block bi (by simp;omega) (λe=>by have:=(HR2.o.inn.lt_own bi e.symm).1;omega)]
      exact bHeap (bA (bR _) _) HR2.o.var
     obtain⟨A7,c7,rfl,-,-,-⟩:=hk5.form
     have hlk:(x.ins.take (k+1)).length=k+1:=by simp;omega
     rw[hlk] at hr5⊢
     have v0:X5.cell? ⟨bi,0,none⟩=some (.slice A6 k c6):=by rw[cell_at hvar5];rfl
     have f0:=free_at hvar5 0
     have HR5:=Hm hr5
     clear hk5 hg5 hw5 hr5 hvar5 hlk v1 HR2 HK2 HR HRd0
     go_wp2_with fail
     refine⟨?_,?_⟩
     ·exact trivial
     refine line_rd rfl (λK hK=>?_);go_simp;refine hK _ ?_;clear hK K
     refine line_hv rfl ?_
     go_wp2_with fail
     refine⟨?_,?_⟩
     ·exact trivial
     unfold Line
     go_wp2_with fail
     go_roundw
     case rel=>exact⟨k+1,_,_,by omega,by go_num,HR5.o⟩
     case measure=>simp[intOf];omega
    ·obtain rfl:k=x.ins.length:=by omega
     have hr:=HR.o
     rw[List.drop_length,List.flatMap_nil,List.nil_append,List.take_length,←HRE.o] at hr
     have HR1:=Hm hr
     clear hr HR
     obtain⟨ev,en,hok⟩:=HX.o.2.2
     have hle:(encEnd x.fin++((ls.drop (j+1)).flatMap encBlock++rest)).length≤10000000:=by
      have:=HLX2.o
      rw[←HRE.o] at this
      simp only[List.length_append] at this⊢
      omega
     have HEnd:=Hm (end_any p ((ls.drop (j+1)).flatMap encBlock++rest) x.fin HX.o.1.fin ev en hok wr HR1.o.rd hle)
     clear hok hle
     go_wp2_with fail
     refine HEnd.o.mono ?_
     rintro e X1 ⟨rfl,hs⟩
     have HR2:=Hm (HR1.o.step hs)
     obtain⟨-,c1,c2,c3,c4⟩:=cC5 HR2.o.var
     obtain⟨-,f1,f2,f3,f4⟩:=fF5 HR2.o.var
     clear hs HR1 HEnd
     unfold endV
     go_wp2_with fail
     have HF:=Hm (HR2.o.fin (.int .u8 x.fin.kind) (.int .i64 x.fin.a) (.int .i64 x.fin.to_) (.int .i64 x.fin.else_))
     simp only at HF
     obtain⟨X2,hX2⟩:∃ X2,X2=(((X1.setCell ⟨bi,1,none⟩ (.int .u8 x.fin.kind)).setCell ⟨bi,2,none⟩ (.int .i64 x.fin.a)).setCell ⟨bi,3,none⟩ (.int .i64 x.fin.to_)).setCell ⟨bi,4,none⟩ (.int .i64 x.fin.else_):=⟨_,rfl⟩
     rw[←hX2] at HF⊢
     clear hX2 c1 c2 c3 c4 f1 f2 f3 f4
     refine(code_rd p _ 0 X2 HF.o.2.1).mono ?_
     rintro e W' ⟨rfl,rfl⟩
     obtain⟨d0,d1,d2,d3,d4⟩:=cC5 HF.o.2.2.2.1
     have hokN:∀ b,(ok b∨okI b∨some b=(Value.slice A6 x.ins.length c6).ownBlock)→w.heap.size≤b∧b < W'.heap.size∧some b≠(Value.slice A5 j c5).ownBlock:=by
      have hwb:=HR2.o.wb
      rintro b (hb|hb|hb)
      ·exact⟨(HR2.o.okO b hb).1,HF.o.2.2.1.lt b hb,HF.o.2.2.1.apart b hb⟩
      ·have h1:=HR2.o.okI b hb
       exact⟨by omega,HF.o.2.2.2.2.1.lt b hb,λe=>by have:=HR2.o.ownO b e.symm;omega⟩
      ·have h1:=HF.o.2.2.2.2.1.lt_own b hb.symm
       exact⟨by omega,h1.2,λe=>by have:=HR2.o.ownO b e.symm;omega⟩
     have HOkN:=Hm hokN
     have HK:=Hm (HF.o.2.2.1.more (ok':=λb=>ok b∨okI b∨some b=(Value.slice A6 x.ins.length c6).ownBlock) (λb hb=>.inl hb) (λb hb=>(hokN b hb).2.2) (λb hb=>(hokN b hb).2.1))
     have HY:Hd (kBlock.K W' (λb=>ok b∨okI b∨some b=(Value.slice A6 x.ins.length c6).ownBlock) x [.slice A6 x.ins.length c6,.int .u8 x.fin.kind,.int .i64 x.fin.a,.int .i64 x.fin.to_,.int .i64 x.fin.else_]) :=
      ⟨kBlock_mk (end_fits HX.o.1.fin) (HF.o.2.2.2.2.1.sk.stay (Stays.weaken λb hb=>.inr hb))⟩
     have hzw:w.heap.size≤W'.heap.size:=HF.o.1.size
     have htj:(ls.take j).length≤16:=by simp;omega
     clear hokN
     go_wp2_with (first
      |(at_builtin;refine appK iBlock Tryz.underlying57 rfl (.tmp 34) (.tmp 36) rfl rfl (HK.o.bel (bA (bR _) (.cells #[.slice A6 x.ins.length c6,.int .u8 x.fin.kind,.int .i64 x.fin.a,.int .i64 x.fin.to_,.int .i64 x.fin.else_] 97))) (show w.heap.size≤(W'.alloc _).heap.size by simp;omega) (q:=W'.heap.size) rfl (row_new _ _ _ _) (kBlock.stay (Stays.below (bA (bR _) _)) HY.o) (show ((ls.take j).length+1)*56≤140737488355328 by omega) ?_))
     intro v5 X5 hk5 hg5 hw5
     rw[←HT.o] at hk5
     have hfin:w.grownBy X5 (some p)∧RdAt X5 p ((ls.drop (j+1)).flatMap encBlock++rest) 0:=by
      have hr:∀ k,(Value.slice A5 j c5).ownBlock=some k→w.heap.size≤k:=λk hk=>(HF.o.2.2.1.lt_own k hk).1
      exact⟨grown_own (grownBy_trans HF.o.1 (grownBy_below (bA (bR _) _))) hg5 hr,(HF.o.2.1.below (bA (bR _) _)).growN (λk hk=>by have:=hr k hk;omega) hg5⟩
     have HFin:=Hm (And.intro hfin hk5)
     clear hfin hk5 hg5 hw5 d0 d1 d2 d3 d4 HK HY HF HR2
     go_wp2_with fail
     go_roundw
     case rel=>exact⟨j+1,_,by omega,by go_num,HFin.o.1.1,HFin.o.1.2,HFin.o.2,λb hb=>(HOkN.o b hb).1⟩
     case measure=>simp[intOf];omega
  ·have hd:ls.drop j=[]:=List.drop_eq_nil_of_le (by omega)
   have ht:ls.take j=ls:=List.take_of_length_le (by omega)
   rw[hd] at HD
   rw[ht] at HK
   go_wp2
   go_ret
   refine⟨⟨HG.o,by simpa using HD.o⟩,.slice A5 (ls.take j).length c5,ok,rfl,?_,HOk.o⟩
   rw[show (ls.take j).length=j from by simp;omega]
   exact HK.o
theorem code_plain {f:Code} (h:CodeOk f):(∀ b∈f.blocks,∀ i∈b.ins,InsPlain i)∧∀ b∈f.blocks,∃ v n,EndOk v n b.fin :=
 ⟨λb hb i hi=>mins_plain ((h.blocks b hb).ins i hi),λb hb=>⟨_,_,(h.blocks b hb).fin⟩⟩
theorem bS {w X X':World} {p:Nat} {l:List UInt8} {c:Nat} (h:Bel w X) (hs:RdStep X X' p l c) (hp:w.heap.size≤p):Bel w X':=bG h hs.grown (λk hk=>by cases hk;exact hp)
def RCodePost (w:World) (f:Code) (e:Ending) (w':World):Prop :=
 Bel w w'∧∃ v ok,e=.returned (.tuple #[.agg #[.int .i64 f.params,.int .i64 f.regs,.int .i64 f.slots,v],.int .i64 0])∧Kd.SK kBlock w' ok f.blocks v∧∀ b,ok b→w.heap.size≤b
theorem readCode_any (f:Code) (h:CodeOk f) (hf:∀ b∈f.blocks,BlockFine b) (A:Option Addr) (ca:Nat) (w:World) (hA:Bytes w A (encCode f)) (hl:(encCode f).length≤65536) :
  Calls Tryz.prog 44 #[.slice A (encCode f).length ca] w (RCodePost w f):=by
 have HF:=Hm (And.intro h hf)
 have HNew:=Hm (λ(w':World) (hb:Bel w w')=>new_rd A ca (encCode f) w' (hA.below hb) (by omega))
 obtain⟨n,hn⟩:∃ n,(encCode f).length=n:=⟨_,rfl⟩
 have hp0:=h.p0;have hp4:=h.p4;have hr3:=h.r3;have hr8:=h.r8;have hps:=h.ps;have hs64:=h.s64
 obtain⟨params,regs,slots,blocks⟩:=f
 simp only at *
 obtain⟨params,rfl⟩:=Int.eq_ofNat_of_zero_le hp0
 obtain⟨regs,rfl⟩:=Int.eq_ofNat_of_zero_le (show 0≤regs by omega)
 obtain⟨slots,rfl⟩:=Int.eq_ofNat_of_zero_le (show 0≤slots by omega)
 have henc:encCode ⟨(params:Int),(regs:Int),(slots:Int),blocks⟩=leb params++(leb regs++(leb slots++(encBlocks blocks++[]))):=by simp[encCode,flatL]
 rw[hn] at hl HNew⊢
 rw[henc] at hn HNew
 simp only[List.length_append] at hn
 have HN:=Hm hn
 clear h hf hA hn henc
 go_enter Tryz.func44,Tryz.ntmps44
 go_wp2_with fail
 refine(HNew.o _ (bA (bR _) _)).mono ?_
 rintro e w1 ⟨hb1,p,rfl,hp,hrd⟩
 have HRd:=Hm hrd
 have hq0:w1.heap[w.heap.size]?=some (.cells ([.int .i64 0,.int .i64 0,.int .i64 0,.slice none 0 0]:List Value).toArray 59 (0,0)):=bHeap hb1 (heap_new _ _)
 have hqp:w.heap.size < p:=by simp at hp;omega
 have HB1:=Hm (bUA hb1)
 have HQ:=Hm hq0
 clear hb1 hrd hp hq0
 go_wp2_with fail
 refine(below_leb p params _ 4096 w1 HRd.o (by omega) (by omega) (by have:=HN.o;simp only[List.length_append];omega)).mono ?_
 rintro e w2 ⟨rfl,hs⟩
 have HB2:=Hm (bS HB1.o hs (by omega))
 have HQ2:=Hm ((hs.grown.block w.heap.size (Array.getElem?_eq_some_iff.1 HQ.o).1 (by simp;omega)).trans HQ.o)
 have HRd2:=Hm hs.rd
 clear hs HQ HRd HB1
 go_wp2_with fail
 refine(below_leb p regs _ 4096 w2 HRd2.o (by omega) (by omega) (by have:=HN.o;simp only[List.length_append];omega)).mono ?_
 rintro e w3 ⟨rfl,hs⟩
 have HB3:=Hm (bS HB2.o hs (by omega))
 have HQ3:=Hm ((hs.grown.block w.heap.size (Array.getElem?_eq_some_iff.1 HQ2.o).1 (by simp;omega)).trans HQ2.o)
 have HRd3:=Hm hs.rd
 clear hs HQ2 HRd2 HB2
 go_wp2_with fail
 refine(below_leb p slots _ 4096 w3 HRd3.o (by omega) (by omega) (by have:=HN.o;simp only[List.length_append];omega)).mono ?_
 rintro e w4 ⟨rfl,hs⟩
 have HB4:=Hm (bS HB3.o hs (by omega))
 have HQ4:=Hm ((hs.grown.block w.heap.size (Array.getElem?_eq_some_iff.1 HQ3.o).1 (by simp;omega)).trans HQ3.o)
 have HRd4:=Hm hs.rd
 have hpz:p < w4.heap.size:=hs.rd.lt
 clear hs HQ3 HRd3 HB3
 obtain⟨bi,hbi⟩:∃ bi,bi=w4.heap.size:=⟨_,rfl⟩
 obtain⟨X,hX⟩:∃ X,X=w4.alloc (.cells #[.int .i64 params,.int .i64 regs,.int .i64 slots,.slice none 0 0] 59):=⟨_,rfl⟩
 have HB5:Hd (Bel w X):=⟨by rw[hX];exact bA HB4.o _⟩
 have HQ5:Hd (X.heap[w.heap.size]?=some (.cells ([.int .i64 0,.int .i64 0,.int .i64 0,.slice none 0 0]:List Value).toArray 59 (0,0))):=⟨by rw[hX];exact bHeap (bA (bR _) _) HQ4.o⟩
 have HV5:Hd (X.heap[bi]?=some (.cells ([.int .i64 params,.int .i64 regs,.int .i64 slots,.slice none 0 0]:List Value).toArray 59 (0,0))):=⟨by rw[hX,hbi];exact heap_new _ _⟩
 have HRd5:Hd (RdAt X p (encBlocks blocks++[]) 0):=⟨by rw[hX];exact HRd4.o.below (bA (bR _) _)⟩
 have hbx:bi < X.heap.size:=by rw[hX,hbi];simp
 have hpb:p < bi:=by omega
 go_wp2_with fail
 rw[←hX]
 rw[←hbi]
 clear hX hbi HB4 HQ4 HRd4
 refine(rblocks_any p [] blocks 400 (Nat.le_refl _) (λb hb=>(HF.o.1.blocks b hb).len) HF.o.2 (code_plain HF.o.1).1 (code_plain HF.o.1).2 HF.o.1.n16 X HRd5.o (by have:=HN.o;simp only[List.length_append];omega)).mono ?_
 rintro e w6 ⟨hs,v,ok,rfl,hk,hok⟩
 have HB6:=Hm (bS HB5.o hs (by omega))
 have HQ6:=Hm ((hs.grown.block w.heap.size (Array.getElem?_eq_some_iff.1 HQ5.o).1 (by simp;omega)).trans HQ5.o)
 have hv6:=(hs.grown.block bi hbx (by simp;omega)).trans HV5.o
 have HV6:=Hm hv6
 have HRd6:=Hm hs.rd
 have HK:=Hm (hk.sk)
 have HOk:Hd (∀ b,(ok b∨some b=v.ownBlock)→X.heap.size≤b):=⟨by
  rintro b (hb|hb)
  ·exact hok b hb
  ·exact(hk.lt_own b hb.symm).1⟩
 obtain⟨A6,c6,rfl,-,-,-⟩:=hk.form
 have v3:w6.cell? ⟨bi,3,none⟩=some (.slice none 0 0):=by rw[cell_at hv6];rfl
 have f3:=free_at hv6 3
 clear hs hk hok hv6 HB5 HQ5 HV5 HRd5
 go_wp2_with fail
 obtain⟨Y,hY⟩:∃ Y,Y=w6.setCell ⟨bi,3,none⟩ (.slice A6 blocks.length c6):=⟨_,rfl⟩
 have hbw:w.heap.size≤bi:=by omega
 have HB7:Hd (Bel w Y):=⟨by rw[hY];exact bC HB6.o hbw _ _⟩
 have HQ7:Hd (Y.heap[w.heap.size]?=some (.cells ([.int .i64 0,.int .i64 0,.int .i64 0,.slice none 0 0]:List Value).toArray 59 (0,0))):=⟨by rw[hY,heap_setCell_other w6 ⟨bi,3,none⟩ w.heap.size _ (by simp only;omega)];exact HQ6.o⟩
 have HV7:Hd (Y.heap[bi]?=some (.cells ([.int .i64 params,.int .i64 regs,.int .i64 slots,.slice A6 blocks.length c6]:List Value).toArray 59 (0,0))):=⟨by rw[hY];simpa using set_at HV6.o 3 (.slice A6 blocks.length c6)⟩
 have HRd7:Hd (RdAt Y p [] 0):=⟨by rw[hY];exact HRd6.o.set hpb _ _⟩
 have HK7:Hd (Kd.SK kBlock Y (λb=>ok b∨some b=(Value.slice A6 blocks.length c6).ownBlock) blocks (.slice A6 blocks.length c6)):=⟨by
  rw[hY]
  exact HK.o.stay (Stays.grown (grownBy_cell w6 bi 3 _) (λb hb e=>by have:=HOk.o b hb;simp at e;omega))⟩
 rw[←hY]
 clear hY HB6 HQ6 HV6 HRd6 HK v3 f3
 refine(end_rd p [] 0 Y HRd7.o).mono ?_
 rintro e w8 ⟨rfl,hs⟩
 simp only[ended,if_true] at hs⊢
 have HB8:=Hm (bS HB7.o hs (by omega))
 have hbY:bi < Y.heap.size:=(Array.getElem?_eq_some_iff.1 HV7.o).1
 have hv8:=(hs.grown.block bi hbY (by simp;omega)).trans HV7.o
 have HQ8:=Hm ((hs.grown.block w.heap.size (Array.getElem?_eq_some_iff.1 HQ7.o).1 (by simp;omega)).trans HQ7.o)
 have HV8:=Hm hv8
 have HK8:=Hm (HK7.o.stay (Stays.grown hs.grown (λb hb e=>by have:=HOk.o b hb;simp at e;omega)))
 obtain⟨u0,u1,u2,u3⟩:=cC4 hv8
 have hfld:=run_fault
 clear hs hv8 HB7 HQ7 HV7 HRd7 HK7
 go_wp2_with fail
 refine(mcheck_ok ⟨params,regs,slots,blocks⟩ HF.o.1 _ _ w8 HK8.o).mono ?_
 rintro e w9 ⟨rfl,hb9⟩
 have HB9:=Hm (bT HB8.o hb9)
 have hq9:=bHeap hb9 HQ8.o
 have hv9:=bHeap hb9 HV8.o
 have HK9:=Hm (sk_bel HK8.o hb9)
 obtain⟨v0,v1,v2,v3⟩:=cC4 hv9
 obtain⟨z0,z1,z2,z3⟩:=cC4 hq9
 obtain⟨g0,g1,g2,g3⟩:=fF4 hq9
 have HQ9:=Hm (set_at (set_at (set_at (set_at hq9 0 (.int .i64 params)) 1 (.int .i64 regs)) 2 (.int .i64 slots)) 3 (.slice A6 blocks.length c6))
 clear hb9 HB8 HQ8 HV8 HK8 hq9 hv9
 clear u0 u1 u2 u3
 go_wp2
 obtain⟨y0,y1,y2,y3⟩:=cC4 HQ9.o
 refine bodyPost_ret (v:=.tuple #[.agg #[.int .i64 params,.int .i64 regs,.int .i64 slots,.slice A6 blocks.length c6],.int .i64 0]) (by simp[results,Tryz.results44,go_sem,y0,y1,y2,y3]) rfl ⟨?_,_,_,rfl,?_,λb hb=>Nat.le_trans (by omega) (HOk.o b hb)⟩
 ·exact bC (bC (bC (bC HB9.o (Nat.le_refl _) _ _) (Nat.le_refl _) _ _) (Nat.le_refl _) _ _) (Nat.le_refl _) _ _
 ·have hst:∀ (W:World) (k:Nat) (u:Value),Kd.SK kBlock W (λb=>ok b∨some b=(Value.slice A6 blocks.length c6).ownBlock) blocks (.slice A6 blocks.length c6)→Kd.SK kBlock (W.setCell ⟨w.heap.size,k,none⟩ u) (λb=>ok b∨some b=(Value.slice A6 blocks.length c6).ownBlock) blocks (.slice A6 blocks.length c6) :=
   λW k u hW=>hW.stay (Stays.grown (grownBy_cell W w.heap.size k u) (λb hb e=>by have:=HOk.o b hb;simp at e;omega))
  exact hst _ _ _ (hst _ _ _ (hst _ _ _ (hst _ _ _ HK9.o)))
theorem iPair:EI 119 2 16 (.agg #[.int .i64 0,.int .i64 0]):=EI.mk (by kernel_rfl) rfl (by omega) (by omega)
theorem iPairs:EI 117 1 24 (.slice none 0 0):=EI.mk (by kernel_rfl) rfl (by omega) (by omega)
def RCertPost (w:World) (ls:List (List PairV)) (e:Ending) (w':World):Prop :=
 Bel w w'∧∃ v ok,e=.returned (.tuple #[v,.int .i64 0])∧Kd.SK kPairs w' ok ls v∧∀ b,ok b→w.heap.size≤b
theorem readCert_any (ls:List (List PairV)) (h16:ls.length≤16) (hf:∀ l∈ls,PairsFine l) (A:Option Addr) (ca:Nat) (w:World) (hA:Bytes w A (encCert ls)) (hl:(encCert ls).length≤65536) :
  Calls Tryz.prog 58 #[.slice A (encCert ls).length ca] w (RCertPost w ls):=by
 have HF:=Hm hf
 have hnew:=new_rd A ca (encCert ls) w hA (by omega)
 have e0:encCert ls=leb ls.length++(ls.flatMap encPairs++[]):=by simp[encCert,flatL]
 obtain⟨n,hn⟩:∃ n,(encCert ls).length=n:=⟨_,rfl⟩
 rw[hn] at hl hnew⊢
 rw[e0] at hn hnew
 have HNew:=Hm hnew
 have hn2:(ls.flatMap encPairs++[]).length≤65536:=by simp only[List.length_append] at hn⊢;omega
 have HN:=Hm (show (leb ls.length++(ls.flatMap encPairs++[])).length≤65536 by omega)
 have HN2:=Hm hn2
 clear hf hA hnew hn e0 hn2
 go_enter Tryz.func58,Tryz.ntmps58
 go_wp2_with fail
 refine HNew.o.mono ?_
 rintro e w1 ⟨hb1,p,rfl,hp,hrd⟩
 have HB1:=Hm hb1
 have HRd:=Hm hrd
 clear hb1 hrd
 go_wp2_with fail
 refine(below_leb p ls.length _ 17 w1 HRd.o (by omega) (by omega) (by have:=HN.o;omega)).mono ?_
 rintro e w2 ⟨rfl,hs⟩
 have HB2:=Hm (bS HB1.o hs hp)
 have HRd2:=Hm hs.rd
 clear hs HB1 HRd
 go_wp2_with fail
 go_loopw [5,12] (λv i wr=>∃ (j:Nat) (ok:Nat→Prop),j≤ls.length∧i=.int .i64 j∧Bel w wr∧RdAt wr p ((ls.drop j).flatMap encPairs++[]) 0∧KRow kPairs wr (p+1) 117 ok (ls.take j) v∧∀ b,ok b→p < b) (λ_ i _=>ls.length-(intOf i).toNat)
 case atStart=>exact⟨0,λ_=>False,Nat.zero_le _,rfl,HB2.o,by simpa using HRd2.o,by simpa using KRow.none w2 (p+1) 117 (λ_=>False) (λ_ h=>h.elim),λ_ h=>h.elim⟩
 case round =>
  obtain⟨j,ok,hj,rfl,hb,hrd,hk,hok⟩:=hrel
  have HB:=Hm hb
  have HD:=Hm hrd
  have HK:=Hm hk
  have HOk:=Hm hok
  obtain⟨A5,c5,rfl,-,-,-⟩:=hk.form
  have hlj:(ls.take j).length=j:=by simp;omega
  rw[hlj] at HK
  clear hb hrd hk hok hlj
  by_cases hlt:j < ls.length
  ·have hd:=flat_drop encPairs ls j hlt
   have ht:ls.take (j+1)=ls.take j++[ls[j]]:=take_snoc' ls j hlt
   have hx:=HF.o _ (List.getElem_mem hlt)
   have hlx:((ls.drop j).flatMap encPairs++[]).length≤65536:=by
    have h1:ls.flatMap encPairs=(ls.take j).flatMap encPairs++(ls.drop j).flatMap encPairs:=by rw[←List.flatMap_append,List.take_append_drop]
    have h2:=HN2.o
    rw[h1] at h2
    simp only[List.length_append] at h2⊢
    omega
   generalize ls[j]=x at *
   obtain⟨R,hR⟩:∃ R,(ls.drop (j+1)).flatMap encPairs++[]=R:=⟨_,rfl⟩
   have hdr:(ls.drop j).flatMap encPairs++[]=leb x.length++(x.flatMap encPair++R):=by rw[hd,←hR];simp[encPairs,flatL]
   rw[hdr] at HD hlx
   have HX:=Hm hx
   have HT:=Hm ht
   have HRE:=Hm hR
   have HLX:=Hm hlx
   have hx5:x.length≤500:=hx.len
   have hlx2:(x.flatMap encPair++R).length≤65536:=by simp only[List.length_append] at hlx⊢;omega
   have HLX2:=Hm hlx2
   clear hd ht hx hR hdr hlx hlx2
   have hpr:p < wr.heap.size:=HD.o.lt
   obtain⟨m,hm⟩:∃ m,m=wr.heap.size:=⟨_,rfl⟩
   have HLo:Hd ((∀ b,ok b→b < m)∧(∀ b,(Value.slice A5 j c5).ownBlock=some b→b < m)):=⟨by rw[hm];exact⟨HK.o.lt,λb hb=>(HK.o.lt_own b hb).2⟩⟩
   have hpm:p < m:=by omega
   go_wp2_with fail
   refine(below_leb p x.length _ 65536 wr HD.o (by omega) (by omega) (by have:=HLX.o;omega)).mono ?_
   rintro e X1 ⟨rfl,hs⟩
   have HB3:=Hm (bS HB.o hs hp)
   have HRd3:=Hm hs.rd
   have HK3:=Hm (HK.o.stay hs.grown (.inl λe=>by have:=(HK.o.lt_own p e).1;omega) (λb hb e=>by have:=HOk.o b hb;simp at e;omega))
   have hmz:m≤X1.heap.size:=by have:=hs.grown.size;omega
   clear hs hm HB HD HK
   go_wp2_with fail
   obtain⟨wo,rfl⟩:∃ wo:World,wo=wr:=⟨_,rfl⟩
   go_loopw [6,16] (λv6 i wr=>∃ (k:Nat),k≤x.length∧i=.int .i64 k∧Bel w wr∧m≤wr.heap.size∧RdAt wr p ((x.drop k).flatMap encPair++R) 0∧KRow kPairs wr (p+1) 117 ok (ls.take j) (.slice A5 j c5)∧KRow kPair wr m 119 (λ_=>False) (x.take k) v6) (λ_ i _=>x.length-(intOf i).toNat)
   case atStart=>exact⟨0,Nat.zero_le _,rfl,HB3.o,hmz,by simpa using HRd3.o,HK3.o,by simpa using KRow.none X1 m 119 (λ_=>False) (λ_ h=>h.elim)⟩
   case round =>
    obtain⟨k,hk,rfl,hb,hz,hrd,hko,hki⟩:=hrel
    have HB:=Hm hb
    have HD:=Hm hrd
    have HKo:=Hm hko
    have HKi:=Hm hki
    obtain⟨A6,c6,rfl,-,-,-⟩:=hki.form
    have hlk:(x.take k).length=k:=by simp;omega
    rw[hlk] at HKi
    clear hb hrd hko hki hlk
    by_cases hkt:k < x.length
    ·have hd:=flat_drop encPair x k hkt
     have ht:x.take (k+1)=x.take k++[x[k]]:=take_snoc' x k hkt
     have hy:=HX.o.all _ (List.getElem_mem hkt)
     have hly:((x.drop k).flatMap encPair++R).length≤65536:=by
      have h1:x.flatMap encPair=(x.take k).flatMap encPair++(x.drop k).flatMap encPair:=by rw[←List.flatMap_append,List.take_append_drop]
      have h2:=HLX2.o
      rw[h1] at h2
      simp only[List.length_append] at h2⊢
      omega
     generalize x[k]=y at *
     obtain⟨yv,yl⟩:=y
     obtain⟨y1,y2,y3,y4⟩:=hy
     simp only at y1 y2 y3 y4
     obtain⟨yv,rfl⟩:=Int.eq_ofNat_of_zero_le y1
     obtain⟨yl,rfl⟩:=Int.eq_ofNat_of_zero_le y3
     have hdr:(x.drop k).flatMap encPair++R=leb yv++(leb yl++((x.drop (k+1)).flatMap encPair++R)):=by rw[hd];simp[encPair,flatL]
     rw[hdr] at HD hly
     have HLY:=Hm hly
     have HT2:=Hm ht
     have hlk:(x.take k).length≤500:=by simp;omega
     clear hd ht hly hdr
     go_wp2_with fail
     refine(code_rd p _ 0 _ HD.o).mono ?_
     rintro e W ⟨rfl,rfl⟩
     go_wp2_with fail
     refine(below_leb p yv _ 4096 W HD.o (by omega) (by omega) (by have:=HLY.o;omega)).mono ?_
     rintro e X2 ⟨rfl,hs⟩
     have HB4:=Hm (bS HB.o hs hp)
     have HRd4:=Hm hs.rd
     have HKo4:=Hm (HKo.o.stay hs.grown (.inl λe=>by have:=(HKo.o.lt_own p e).1;omega) (λb hb e=>by have:=HOk.o b hb;simp at e;omega))
     have HKi4:=Hm (HKi.o.stay hs.grown (.inl λe=>by have:=(HKi.o.lt_own p e).1;omega) (λb hb e=>hb.elim))
     have hz4:m≤X2.heap.size:=by have:=hs.grown.size;omega
     clear hs HB HD HKo HKi
     go_wp2_with fail
     refine(below_leb p yl _ 4096 X2 HRd4.o (by omega) (by omega) (by have:=HLY.o;simp only[List.length_append] at this⊢;omega)).mono ?_
     rintro e X3 ⟨rfl,hs⟩
     have HB5:=Hm (bS HB4.o hs hp)
     have HRd5:=Hm hs.rd
     have HKo5:=Hm (HKo4.o.stay hs.grown (.inl λe=>by have:=(HKo4.o.lt_own p e).1;omega) (λb hb e=>by have:=HOk.o b hb;simp at e;omega))
     have HKi5:=Hm (HKi4.o.stay hs.grown (.inl λe=>by have:=(HKi4.o.lt_own p e).1;omega) (λb hb e=>hb.elim))
     have hz5:m≤X3.heap.size:=by have:=hs.grown.size;omega
     clear hs HB4 HRd4 HKo4 HKi4
     have HY:Hd (∀ W':World,kPair.K W' (λ_=>False) ⟨(yv:Int),(yl:Int)⟩ [.int .i64 yv,.int .i64 yl]):=⟨λW'=>kPair_mk (wf64.2 (by simp;omega)) (wf64.2 (by simp;omega))⟩
     go_wp2_with (first
      |(at_builtin;refine appK iPair Tryz.underlying117 rfl (.tmp 21) (.tmp 27) rfl rfl (HKi5.o.bel (bA (bR _) (.cells #[.int .i64 yv,.int .i64 yl] 119))) (show m≤(X3.alloc _).heap.size by simp;omega) (q:=X3.heap.size) rfl (row_new _ _ _ _) (HY.o _) (show ((x.take k).length+1)*16≤140737488355328 by omega) ?_))
     intro v7 X4 hk7 hg7 hw7
     rw[←HT2.o] at hk7
     have hr:∀ b,(Value.slice A6 k c6).ownBlock=some b→m≤b:=λb hb=>(HKi5.o.lt_own b hb).1
     have HB6:=Hm (bG (bA HB5.o _) hg7 (λb hb=>by have:=hr b hb;omega))
     have HRd6:=Hm ((HRd5.o.below (bA (bR _) _)).growN (λb hb=>by have:=hr b hb;omega) hg7)
     have HKo6:=Hm ((HKo5.o.bel (bA (bR _) _)).stay hg7 (by
      cases hv:(Value.slice A6 k c6).ownBlock with
      |none=>cases ho:(Value.slice A5 j c5).ownBlock with
       |none=>exact .inr rfl
       |some g=>exact .inl (by simp)
      |some g=>exact .inl (λe=>by have:=HLo.o.2 g e;have:=hr g hv;omega)) (λb hb e=>by have:=HLo.o.1 b hb;have:=hr b e.symm;omega))
     have HK7:=Hm hk7
     have hz6:m≤X4.heap.size:=by have:=hg7.size;simp at this;omega
     clear hk7 hg7 hw7 HB5 HRd5 HKo5 HKi5 HY
     go_wp2_with fail
     go_roundw
     case rel=>exact⟨k+1,by omega,by go_num,HB6.o,hz6,HRd6.o,HKo6.o,HK7.o⟩
     case measure=>simp[intOf];omega
    ·obtain rfl:k=x.length:=by omega
     rw[List.drop_length,List.flatMap_nil,List.nil_append] at HD
     rw[List.take_length] at HKi
     have hokN:∀ b,(ok b∨some b=(Value.slice A6 x.length c6).ownBlock)→p < b∧b < wr.heap.size∧some b≠(Value.slice A5 j c5).ownBlock:=by
      rintro b (hb|hb)
      ·exact⟨HOk.o b hb,HKo.o.lt b hb,HKo.o.apart b hb⟩
      ·have h1:=HKi.o.lt_own b hb.symm
       exact⟨by omega,h1.2,λe=>by have:=HLo.o.2 b e.symm;omega⟩
     have HOkN:=Hm hokN
     have HK:=Hm (HKo.o.more (ok':=λb=>ok b∨some b=(Value.slice A6 x.length c6).ownBlock) (λb hb=>.inl hb) (λb hb=>(hokN b hb).2.2) (λb hb=>(hokN b hb).2.1))
     have HY:Hd (kPairs.K wr (λb=>ok b∨some b=(Value.slice A6 x.length c6).ownBlock) x [.slice A6 x.length c6]):=⟨⟨_,rfl,HKi.o.sk.stay (Stays.weaken λb hb=>by rcases hb with hb|hb;exact hb.elim;exact .inr hb)⟩⟩
     have htj:(ls.take j).length≤16:=by simp;omega
     clear hokN
     go_wp2_with (first
      |(at_builtin;refine appK iPairs Tryz.underlying69 rfl (.tmp 30) (.tmp 32) rfl rfl (HK.o.bel (bA (bR _) (.cells #[.slice A6 x.length c6] 117))) (show p+1≤(wr.alloc _).heap.size by simp;omega) (q:=wr.heap.size) rfl (row_new _ _ _ _) (kPairs.stay (Stays.below (bA (bR _) _)) HY.o) (show ((ls.take j).length+1)*24≤140737488355328 by omega) ?_))
     intro v7 X4 hk7 hg7 hw7
     rw[←HT.o] at hk7
     have hr:∀ b,(Value.slice A5 j c5).ownBlock=some b→p+1≤b:=λb hb=>(HKo.o.lt_own b hb).1
     have HB6:=Hm (bG (bA HB.o _) hg7 (λb hb=>by have:=hr b hb;omega))
     have HRd6:Hd (RdAt X4 p ((ls.drop (j+1)).flatMap encPairs++[]) 0):=⟨by rw[HRE.o];exact(HD.o.below (bA (bR _) _)).growN (λb hb=>by have:=hr b hb;omega) hg7⟩
     have HK7:=Hm hk7
     clear hk7 hg7 hw7 HB HD HKo HKi HY HK
     go_wp2_with fail
     go_roundw
     case rel=>exact⟨j+1,_,by omega,by go_num,HB6.o,HRd6.o,HK7.o,λb hb=>(HOkN.o b hb).1⟩
     case measure=>simp[intOf];omega
  ·have hd:ls.drop j=[]:=List.drop_eq_nil_of_le (by omega)
   have ht:ls.take j=ls:=List.take_of_length_le (by omega)
   rw[hd] at HD
   rw[ht] at HK
   have HEn:=Hm (end_rd p [] 0 wr HD.o)
   go_wp2_with fail
   refine HEn.o.mono ?_
   rintro e w8 ⟨rfl,hs⟩
   simp only[ended,if_true] at hs⊢
   have HB8:=Hm (bS HB.o hs hp)
   have HK8:=Hm (HK.o.stay hs.grown (.inl λe=>by have:=(HK.o.lt_own p e).1;omega) (λb hb e=>by have:=HOk.o b hb;simp at e;omega))
   clear hs
   go_wp2
   go_ret2
   refine⟨HB8.o,.slice A5 (ls.take j).length c5,(λb=>ok b∨some b=(Value.slice A5 j c5).ownBlock),rfl,?_,?_⟩
   ·rw[show (ls.take j).length=j from by simp;omega]
    exact HK8.o.sk
   ·rintro b (hb|hb)
    ·have:=HOk.o b hb;omega
    ·have:=(HK8.o.lt_own b hb.symm).1;omega
theorem leb_len3 {n:Nat} (h:n≤65536):(leb n).length≤3:=leb_length 3 n (by omega) (by omega)
theorem four_len (n:Nat):(four n).length=4:=rfl
theorem takeF_lay (k:UInt8) (b rest:List UInt8) (hb:b.length≤65536):takeF (layF k b++rest)=⟨k,b,(layF k b).length,0⟩:=by
 have h3:=leb_len3 hb
 have h0:=leb_pos b.length
 have e:layF k b++rest=111 :: k :: (leb b.length++(four (csum (k :: b))++(b++rest))):=by simp[layF]
 rw[e]
 have ht:(leb b.length++(four (csum (k :: b))++(b++rest))).take 10=leb b.length++(four (csum (k :: b))++(b++rest)).take (10-(leb b.length).length):=by
  rw[List.take_append,List.take_of_length_le (by omega)]
 have hn:=num_leb b.length ((four (csum (k :: b))++(b++rest)).take (10-(leb b.length).length)) (by omega)
 rw[←ht] at hn
 have hat:min ((leb b.length++(four (csum (k :: b))++(b++rest))).length+2) 12-((four (csum (k :: b))++(b++rest)).take (10-(leb b.length).length)).length=2+(leb b.length).length:=by
  simp only[List.length_append,List.length_take,four_len]
  omega
 have hd4:(111 :: k :: (leb b.length++(four (csum (k :: b))++(b++rest)))).drop (2+(leb b.length).length)=four (csum (k :: b))++(b++rest):=by
  rw[Nat.add_comm]
  simp[List.drop_succ_cons,List.drop_append]
 have hd8:(111 :: k :: (leb b.length++(four (csum (k :: b))++(b++rest)))).drop (2+(leb b.length).length+4)=b++rest:=by
  rw[←List.drop_drop,hd4,List.drop_append,four_len]
  simp[four]
 have hbody:(b++rest).take b.length=b:=List.take_left
 unfold takeF
 simp only[hn,hat,hd4,hd8,hbody]
 rw[if_neg (by decide),if_neg (by decide),if_neg (by omega),if_neg (by simp only[List.length_append,four_len];omega),if_neg]
 ·simp only[layF,List.length_append,List.length_cons,List.length_nil,four_len,Taken.mk.injEq,true_and,and_true]
  omega
 ·rw[show (4:Nat)=(four (csum (k :: b))).length from rfl,List.take_left]
  simp
def OpenPost (w:World) (b:List UInt8) (e:Ending) (w':World):Prop:=Bel w w'∧∃ p,e=.returned (.tuple #[.pointer (some ⟨p,0,none⟩),.int .i64 0])∧w.heap.size≤p∧RdAt w' p b 0
theorem open_any (k:UInt8) (b:List UInt8) (hb:b.length≤65536) (A:Option Addr) (ca:Nat) (w:World) (hA:Bytes w A (layF k b)) (hca:(layF k b).length≤ca) :
  Calls Tryz.prog 52 #[.slice A (layF k b).length ca,byteV k] w (OpenPost w b):=by
 have hlen:(layF k b).length≤70000:=by
  have:=leb_len3 hb
  simp only[layF,List.length_append,List.length_cons,four_len];omega
 have ht:=take_any A ca (layF k b) w hA (by omega) hca
 have hF:=takeF_lay k b [] hb
 rw[List.append_nil] at hF
 have HF:=Hm hF
 have HT:=Hm ht
 obtain⟨n,hn⟩:∃ n,(layF k b).length=n:=⟨_,rfl⟩
 rw[hn] at HF HT hlen⊢
 clear hA hca ht hF hn
 unfold byteV
 go_enter Tryz.func52,Tryz.ntmps52
 go_wp2_with fail
 refine HT.o.mono ?_
 rintro e w1 ⟨hb1,v,rfl,ho⟩
 rw[HF.o] at ho⊢
 simp only at ho⊢
 obtain⟨A1,c1,rfl,hr1,hl1,-,-,-⟩:=own_row ho
 simp only[List.length_map] at hl1
 have HB1:=Hm hb1
 have HN:=Hm (new_rd A1 c1 b w1 hr1 (by omega))
 clear ho hr1 hl1 hb1
 unfold byteV
 go_wp2_with fail
 refine HN.o.mono ?_
 rintro e w2 ⟨hb2,p,rfl,hp,hrd⟩
 have HB2:=Hm (bT HB1.o hb2)
 have HP:=Hm (And.intro (Nat.le_trans HB1.o.size hp) hrd)
 clear hb2 hp hrd
 go_wp2
 go_ret2
 exact⟨HB2.o,p,rfl,HP.o.1,HP.o.2⟩
theorem num_lebC (p:Nat) (n:Nat) (rest:List UInt8) (w:World) (h:RdAt w p (leb n++rest) 0) (hn:n < 18446744073709551616) (hl:(leb n++rest).length≤10000000) :
  Calls Tryz.prog 54 #[.pointer (some ⟨p,0,none⟩)] w λe w'=>e=.returned (.int .u64 n)∧RdStep w w' p rest 0:=by
 have:=num_rd p (leb n++rest) 0 w h hl
 rw[numC_leb n rest hn] at this
 exact this
theorem bytes_take (p:Nat) (b rest:List UInt8) (w:World) (h:RdAt w p (b++rest) 0) (hl:(b++rest).length≤10000000) :
  Calls Tryz.prog 55 #[.pointer (some ⟨p,0,none⟩),.int .i64 (b.length:Nat)] w λe w'=>RdStep w w' p rest 0∧∃ v,e=.returned v∧OwnB w' w.heap.size v b:=by
 have:=bytes_rd p (b++rest) 0 (b.length:Nat) w h hl
 have e:bytesC (b++rest) 0 (b.length:Nat)=(b,rest,0):=by
  unfold bytesC
  rw[if_pos rfl,if_neg (by simp only[List.length_append];omega)]
  simp
 rw[e] at this
 exact this
end Go.Proofs.YtjkgligohegaeaaGreatDoor
