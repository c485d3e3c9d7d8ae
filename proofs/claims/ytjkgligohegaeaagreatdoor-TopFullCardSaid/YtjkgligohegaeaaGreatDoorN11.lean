/- Lemmas of the row. -/
import Derived.Ground.Names2Prog
import Derived.Ground.SlgnProg
import Derived.Shelf.Slices.Clone
import Derived.Shelf.Slices.Empties
import Derived.Shelf.Slices.SearchI
import Derived.Shelf.SlicesE.Clone
import Derived.Shelf.Small.Bits
import Derived.Shelf.Small.Wraps
import Derived.Shelf.Strconv.Itoa0
import Derived.Test.YtjkgligohegaeaaGreatDoorN10
set_option linter.all false
set_option maxRecDepth 20000
set_option maxHeartbeats 12800000
namespace Go.Proofs.YtjkgligohegaeaaGreatDoor
open Go.RowKit
def stepS (b:Bool) (S:PairV→Prop) (v place:Int):PairV→Prop:=if b then givenS S v place else S
theorem cells7 {w:World} {q:Nat} {v0 v1 v2 v3 v4 v5 v6:Value} {ty:TypeId} (h:w.heap[q]?=some (.cells #[v0,v1,v2,v3,v4,v5,v6] ty (0,0))):w.cell? ⟨q,0,none⟩=some v0∧w.cell? ⟨q,1,none⟩=some v1∧w.cell? ⟨q,2,none⟩=some v2∧w.cell? ⟨q,3,none⟩=some v3∧w.cell? ⟨q,4,none⟩=some v4∧w.cell? ⟨q,5,none⟩=some v5∧w.cell? ⟨q,6,none⟩=some v6:=by
 unfold World.cell?
 rw[h]
 exact⟨rfl,rfl,rfl,rfl,rfl,rfl,rfl⟩
theorem run_tail7 (b o n c:Nat) (h1:1≤c) (w:World) :
  (Instr.sliceAt 92 (.slice (some ⟨b,o,none⟩) (n+1) c) (some (.int .i64 1)) none none).run Tryz.prog w=.ok (.slice (if c=1 then some ⟨b,o,none⟩ else some ⟨b,o+7,none⟩) n (c-1)) w:=by
 have hu:Tryz.prog.underlying 92=some (.slice 91):=by kernel_rfl
 have hs:∀ w,(sizeOf 91).run Tryz.prog w=.ok 7 w:=Tryz.sizeOf91
 simp[Instr.sliceAt,go_sem,run_underlying hu,hs]
 intro h
 omega
theorem ints_get {w:World} {A:Option Addr} {l:List Int} (h:Ints w A l) (j:Nat) (hj:j < l.length):∃ b off,A=some ⟨b,off,none⟩∧w.cell? ⟨b,off+j,none⟩=some (.int .i64 l[j]):=by
 obtain⟨b,off,e,hc⟩:=h j (by simpa using hj)
 exact⟨b,off,e,by simpa using hc⟩
theorem usesL_len (k a b a2 b2:Int) (l l2:List Int) (h:l.length=l2.length):(usesL k a b l).length=(usesL k a2 b2 l2).length:=by
 unfold usesL
 split
 ·rfl
 ·split
  ·rfl
  ·split
   ·exact h
   ·rfl
theorem ins_match (p:Nat) (regs:Int) (S S1:PairV→Prop) (hS:SFine S) (f r:List Ins) (g i:Ins) (hf:∀ i∈f,i.kind=2→0≤i.d∧i.d < 64) (hmv:movesS S f=(S1,g :: r))
  (hk2:i.kind≠2) (hk7:i.kind≠7) (hk8:i.kind≠8) (hk:g.kind=i.kind) (hop:g.op=i.op) (hn:g.n=i.n) (hal:g.args.length=i.args.length) (ha4:i.args.length≤1000) (hfi:i.Fits)
  (hu:∀ j (h1:j < (usesL g.kind g.a g.b g.args).length) (h2:j < (usesL i.kind i.a i.b i.args).length),S1 ⟨(usesL g.kind g.a g.b g.args)[j],(usesL i.kind i.a i.b i.args)[j]⟩)
  (A:Option Addr) (c:Nat) (w:World) (hA:Ints w A i.args) (hAp:0 < i.args.length→∀ a,A=some a→a.block≠p) (at_:Int) (h:PassAt w p regs S f) :
  Calls Tryz.prog 169 #[.pointer (some ⟨p,0,none⟩),insV i (.slice A i.args.length c),.int .i64 at_] w λe w'=>e=.returned (.tuple #[])∧w.grownBy w' (some p)∧PassAt w' p regs (stepS (givesB i.kind) S1 g.d i.d) r:=by
 have HM:=Hm (λ(wx:World) (hb:Bel w wx)=>moves_ok p regs S hS f hf wx (by obtain⟨lv,fv,h⟩:=h;exact⟨lv,fv,h.bel hb⟩))
 have HP0:Hd (p < w.heap.size):=⟨by obtain⟨lv,fv,h⟩:=h;exact h.lt⟩
 have H2:Hd ((i.kind == 2)=false∧(i.kind == 7)=false∧(i.kind == 8)=false):=⟨by simp[hk2,hk7,hk8]⟩
 obtain⟨ik,iop,id_,ia,ib,in_,iargs⟩:=i
 obtain⟨e2,e7,e8⟩:=H2.o
 dsimp only at *
 clear hk2 hk7 hk8
 have HR:=Hm (And.intro hu (And.intro hA hAp))
 clear hu hA hAp hS hf h
 unfold insV
 dsimp only
 go_enter Tryz.func169,Tryz.ntmps169
 go_wp2_with fail
 refine(HM.o _ (bA (bR w) _)).mono ?_
 rintro e w1 ⟨rfl,hg1,hp1,hs1⟩
 rw[hmv] at hp1 hs1
 dsimp only at hp1 hs1
 obtain⟨lv,fv,hin⟩:=hp1
 have HI:=Hm hin
 have HS1:=Hm hs1
 have hne:w.heap.size≠p:=λe=>by have:=HP0.o;omega
 have HG1:=Hm (grownBy_trans (grownBy_below (row:=some p) (bA (bR w) (.cells #[.int .u8 ik,.int .u8 iop,.int .i64 id_,.int .i64 ia,.int .i64 ib,.int .i64 in_,.slice A iargs.length c] 91))) hg1)
 have HB:Hd (w1.heap[w.heap.size]?=some (.cells #[.int .u8 ik,.int .u8 iop,.int .i64 id_,.int .i64 ia,.int .i64 ib,.int .i64 in_,.slice A iargs.length c] 91 (0,0))):=⟨by
  rw[hg1.block _ (by simp) (by simpa using hne)];exact heap_new _ _⟩
 obtain⟨Af,cf,rfl,hc1,hc2⟩:=sk_form hin.ins
 obtain⟨bf,off,c',v1,e,hob,hfit,hsk2,z0,z1,z2,z3,z4,z5,z6⟩:=sk_ins hin.ins 0 (by simp)
 simp only[Value.slice.injEq] at e
 obtain⟨rfl,-,rfl⟩:=e
 simp only[List.getElem_cons_zero,Nat.zero_mul,Nat.add_zero] at z0 z1 z2 z3 z4 z5 z6 hfit hsk2
 obtain⟨q,hq⟩:∃ q,q=w.heap.size:=⟨_,rfl⟩
 rw[←hq] at HB⊢
 have HQ:=Hm hq
 have hrl:¬((r.length:Int)+1=0):=by omega
 clear hq hne
 obtain⟨y0,y1,y2,y3,y4,y5,y6⟩:=cells7 HB.o
 obtain⟨gk,gop,gd,ga,gb,gn,gargs⟩:=g
 dsimp only at *
 subst hk hop hn
 obtain⟨G,cg,rfl,hcg1,hcg2⟩:=sk_form hsk2
 have c2:=hin.c2
 rw[hal] at z6
 clear hin
 go_wp2_with fail
 refine rgn [.rd 0,.rd 1,.rd 2,.rd 3,.rd 4,.rd 5,.rd 6,.rd 7,.rd 8,.rd 9,.rd 10,.rd 11,.rd 12,.rd 13,.hv 14 [],.rd 15,.rd 16] (n:=141) rfl ?_
 iterate 14 (refine line_rd rfl (λK hK=>?_);go_simp;refine hK _ ?_;clear hK K)
 refine line_hv rfl ?_
 go_wp2_with fail
 refine(same_any _ _ _ _ _ _ _ _ _ _ _ _ _ _ _).mono ?_
 rintro e w2 ⟨rfl,hb2⟩
 have HB2:=Hm (bU hb2)
 clear hb2
 go_wp2_with fail
 refine⟨?_,?_⟩
 ·exact trivial
 iterate 2 (refine line_rd rfl (λK hK=>?_);go_simp;refine hK _ ?_;clear hK K)
 unfold Line
 have HI2:=Hm (HI.o.bel HB2.o)
 have hB2:=bHeap HB2.o HB.o
 have HBq:=Hm hB2
 have t0:=bCell HB2.o z0
 have t1:=bCell HB2.o z1
 have t2:=bCell HB2.o z2
 have t3:=bCell HB2.o z3
 have t4:=bCell HB2.o z4
 have t5:=bCell HB2.o z5
 have t6:=bCell HB2.o z6
 clear z0 z1 z2 z3 z4 z5 z6 y0 y1 y2 y3 y4 y5 y6 c2 hB2
 have c2:=HI2.o.c2
 have f2:=HI2.o.free 2
 have hpl:=HI2.o.lt
 have HG2:=Hm (grownBy_trans HG1.o (grownBy_below (row:=some p) HB2.o))
 have hbl:bf < w2.heap.size:=World.block_lt_of_cell? w2 _ t0
 have hcp:1≤cf:=by simp only[List.length_cons] at hc1;omega
 have hrun:=λw=>run_tail7 bf off r.length cf hcp w
 have HT:=Hm (sk_tail HI2.o.ins)
 obtain⟨Ax,hax⟩:∃ Ax,(if cf=1 then some ⟨bf,off,none⟩ else some ⟨bf,off+7,none⟩:Option Addr)=Ax:=⟨_,rfl⟩
 rw[hax] at HT hrun
 clear hax
 obtain⟨y0,y1,y2,y3,y4,y5,y6⟩:=cells7 HBq.o
 have hqp:q≠p:=by have:=HP0.o;have:=HQ.o;omega
 have hql:q < w2.heap.size:=World.block_lt_of_cell? w2 _ y0
 go_wp2_with fail
 have HG4:=Hm (grownBy_trans (grownBy_trans HG2.o (grownBy_cell w2 p 2 (.slice Ax r.length (cf-1)))) (grownBy_below (row:=some p) (bA (bR _) (.cells #[.int .u8 gk,.int .u8 gop,.int .i64 gd,.int .i64 ga,.int .i64 gb,.int .i64 gn,.slice G iargs.length cg] 91))))
 have HG14:=Hm (grownBy_trans (grownBy_trans (grownBy_below (row:=some p) HB2.o) (grownBy_cell w2 p 2 (.slice Ax r.length (cf-1)))) (grownBy_below (row:=some p) (bA (bR _) (.cells #[.int .u8 gk,.int .u8 gop,.int .i64 gd,.int .i64 ga,.int .i64 gb,.int .i64 gn,.slice G iargs.length cg] 91))))
 have HI4:=Hm ((HI2.o.setF HT.o).bel (bA (bR _) (.cells #[.int .u8 gk,.int .u8 gop,.int .i64 gd,.int .i64 ga,.int .i64 gb,.int .i64 gn,.slice G iargs.length cg] 91)))
 obtain⟨q2,hq2⟩:∃ q2,q2=w2.heap.size:=⟨_,rfl⟩
 have HBq4:Hd (((w2.setCell ⟨p,2,none⟩ (.slice Ax r.length (cf-1))).alloc (.cells #[.int .u8 gk,.int .u8 gop,.int .i64 gd,.int .i64 ga,.int .i64 gb,.int .i64 gn,.slice G iargs.length cg] 91)).heap[q]?=some (.cells #[.int .u8 gk,.int .u8 gop,.int .i64 id_,.int .i64 ia,.int .i64 ib,.int .i64 gn,.slice A iargs.length c] 91 (0,0))):=⟨bHeap (bA (bR _) _) (by rw[heap_setCell_other w2 ⟨p,2,none⟩ q _ hqp];exact HBq.o)⟩
 have HBg:Hd (((w2.setCell ⟨p,2,none⟩ (.slice Ax r.length (cf-1))).alloc (.cells #[.int .u8 gk,.int .u8 gop,.int .i64 gd,.int .i64 ga,.int .i64 gb,.int .i64 gn,.slice G iargs.length cg] 91)).heap[q2]?=some (.cells #[.int .u8 gk,.int .u8 gop,.int .i64 gd,.int .i64 ga,.int .i64 gb,.int .i64 gn,.slice G iargs.length cg] 91 (0,0))):=⟨by
  have:=heap_new (w2.setCell ⟨p,2,none⟩ (.slice Ax r.length (cf-1))) (.cells #[.int .u8 gk,.int .u8 gop,.int .i64 gd,.int .i64 ga,.int .i64 gb,.int .i64 gn,.slice G iargs.length cg] 91)
  rw[hq2];simpa using this⟩
 rw[←hq2]
 clear hq2
 generalize (w2.setCell ⟨p,2,none⟩ (.slice Ax r.length (cf-1))).alloc (.cells #[.int .u8 gk,.int .u8 gop,.int .i64 gd,.int .i64 ga,.int .i64 gb,.int .i64 gn,.slice G iargs.length cg] 91)=w4 at *
 have hA4:Ints w4 A iargs:=ints_grown HR.o.2.1 HG4.o HR.o.2.2
 have HU:=Hm (uses_any gk gop id_ ia ib gn iargs A c w4 hA4 (by omega))
 clear hA4
 refine HU.o.mono ?_
 rintro e w5 ⟨hb5,v5,rfl,ho5⟩
 have HB5:=Hm hb5
 have HO5:=Hm ho5
 clear hb5 ho5
 have HBg5:=Hm (bHeap HB5.o HBg.o)
 clear t0 t1 t2 t3 t4 t5 t6 y0 y1 y2 y3 y4 y5 y6 c2 f2
 obtain⟨t0,t1,t2,t3,t4,t5,t6⟩:=cells7 HBg5.o
 have hq2l:q2 < w5.heap.size:=World.block_lt_of_cell? w5 _ t0
 obtain⟨A3,c3,e3,-,-,hg3,-⟩:=ski (hsk2.stay (Stays.grown (grownBy_trans HG14.o (grownBy_below (row:=some p) HB5.o)) (ok:=λb=>b≠p) (λb hb e=>hb (by simpa using e))))
 simp only[Value.slice.injEq] at e3
 obtain⟨rfl,-,rfl⟩:=e3
 have hal':=hal
 have HU2:=Hm (uses_any gk gop gd ga gb gn gargs G cg w5 hg3 (by omega))
 rw[hal] at HU2
 clear hg3 hal'
 go_wp2_with fail
 refine HU2.o.mono ?_
 rintro e w6 ⟨hb6,v6,rfl,ho6⟩
 have HB6:=Hm hb6
 have HO6:=Hm ho6
 clear hb6 ho6 t0 t1 t2 t3 t4 t5 t6
 have HUl:=Hm (usesL_len gk ga gb ia ib gargs iargs hal)
 have HUs:=Hm HR.o.1
 generalize usesL gk ga gb gargs=ug at *
 generalize usesL gk ia ib iargs=ui at *
 obtain⟨Ai,ci,rfl,hri,hli,-,hci,hmi⟩:=own_row HO5.o
 obtain⟨Ag,cg6,rfl,hrg,hlg,-,hcg6,hmg⟩:=own_row HO6.o
 have HRi:=Hm (show Ints w6 Ai ui from hri.below HB6.o)
 have HRg:=Hm (show Ints w6 Ag ug from hrg)
 have hul:ug.length=ui.length:=HUl.o
 have hum:ug.length≤9223372036854775807:=by unfold maxLen at hmg;omega
 clear hri hrg hli hlg hmi hmg
 have HI6:=Hm ((HI4.o.bel HB5.o).bel HB6.o)
 have hul':(ui.length:Int)=ug.length:=by omega
 go_wp2_with fail
 go_loopw [110] (λi wr=>∃ j:Nat,j≤ug.length∧i=.int .i64 j∧Bel w6 wr) (λi _=>ug.length-(intOf i).toNat)
 case atStart=>exact⟨0,Nat.zero_le _,rfl,bR _⟩
 case round =>
  obtain⟨j,hj,rfl,hb⟩:=hrel
  have HB:=Hm hb
  clear hb
  by_cases hlt:j < ug.length
  ·obtain⟨b1,o1,rfl,z1⟩:=ints_get (show Ints _ Ag ug from HRg.o.below HB.o) j hlt
   obtain⟨b2,o2,rfl,z2⟩:=ints_get (show Ints _ Ai ui from HRi.o.below HB.o) j (by omega)
   have HUse:=Hm (λ(h1:j < ug.length) (h2:j < ui.length)=>use_ok p regs S1 HS1.o r _ ⟨_,_,HI6.o.bel HB.o⟩ ug[j] ui[j] at_ (HUs.o j h1 h2))
   have HU3:=Hm (HUse.o hlt (by omega))
   have hlt2:j < ui.length:=by omega
   generalize ug[j]=x1 at *
   generalize ui[j]=x2 at *
   clear HUse
   go_wp2_with fail
   refine HU3.o.mono ?_
   rintro e w7 ⟨rfl,hb7⟩
   have HB7:=Hm (bT HB.o hb7)
   clear hb7 z1 z2
   go_wp2_with fail
   go_roundw
   case rel=>exact⟨j+1,by omega,by go_num,HB7.o⟩
   case measure=>simp[intOf];omega
  ·obtain rfl:j=ug.length:=by omega
   have HBg7:=Hm (bHeap (bT HB6.o HB.o) HBg5.o)
   have HI7:=Hm (HI6.o.bel HB.o)
   have HG7:=Hm (grownBy_trans HG4.o (grownBy_below (row:=some p) (bT HB5.o (bT HB6.o HB.o))))
   have HBq7:Hd (wr.heap[q]?=some (.cells #[.int .u8 gk,.int .u8 gop,.int .i64 id_,.int .i64 ia,.int .i64 ib,.int .i64 gn,.slice A iargs.length c] 91 (0,0))):=⟨bHeap (bT HB5.o (bT HB6.o HB.o)) HBq4.o⟩
   obtain⟨t0,t1,t2,t3,t4,t5,t6⟩:=cells7 HBg7.o
   have hq2r:q2 < wr.heap.size:=World.block_lt_of_cell? wr _ t0
   have HGv:=Hm (gives_any gk gop gd ga gb gn G iargs.length cg wr)
   go_wp2_with fail
   refine HGv.o.mono ?_
   rintro e w8 ⟨rfl,hb8⟩
   have HB8:=Hm (show Bel wr w8 from hb8)
   have HBq8:=Hm (bHeap HB8.o HBq7.o)
   have HI8:=Hm (HI7.o.bel HB8.o)
   have HG8:=Hm (grownBy_trans HG7.o (grownBy_below (row:=some p) HB8.o))
   clear hb8 t0 t1 t2 t3 t4 t5 t6
   cases hgv:givesB gk with
   |false =>
    go_wp2
    go_end0
    exact⟨rfl,HG8.o,_,_,(show PassIn _ p regs (stepS false S1 gd id_) _ _ _ from HI8.o)⟩
   |true =>
    rw[show givesD gk gd=gd by rw[givesD,if_pos hgv]]
    obtain⟨t0,t1,t2,t3,t4,t5,t6⟩:=cells7 HBq8.o
    have hq8:q < w8.heap.size:=World.block_lt_of_cell? w8 _ t0
    have c0:=HI8.o.c0
    have f0:=HI8.o.free 0
    have hp8:=HI8.o.lt
    have HGV:=Hm hgv
    clear hgv
    have HGs:=Hm (λ(wx:World) (hb:Bel w8 wx)=>given_set (HI8.o.rep.stay (Stays.below hb)) HS1.o gd id_ hfit.d hfi.d)
    go_wp2_with fail
    refine rgn [.rd 0,.rd 1,.rd 2,.rd 3,.rd 4,.rd 5,.rd 6,.rd 7,.hv 8 [0],.rd 9,.rd 10,.hv 11 []] (n:=141) rfl ?_
    iterate 8 (refine line_rd rfl (λK hK=>?_);go_simp;refine hK _ ?_;clear hK K)
    refine line_hv rfl ?_
    go_wp2_with fail
    refine(HGs.o _ (bD (bR w8))).mono ?_
    rintro e w9 ⟨v',rfl,hb9',hr9⟩
    obtain⟨A',n',c',rfl⟩:=hr9.form
    have hb9:Bel w8 w9:=bU hb9'
    have HB9:=Hm hb9
    have HI9:=Hm (HI8.o.setL hb9 hr9)
    clear c0 f0 hp8 hb9 hb9' hr9 t0 t1 t2 t3 t4 t5 t6
    have hp9:p < w9.heap.size:=(HI8.o.bel HB9.o).lt
    have f0:=(HI8.o.bel HB9.o).free 0
    have c0:=(HI8.o.bel HB9.o).c0
    go_wp2_with fail
    refine⟨?_,?_⟩
    ·simp only[Again,slotOf]
     go_simp
    iterate 2 (refine line_rd rfl (λK hK=>?_);go_simp;refine hK _ ?_;clear hK K)
    refine line_hv rfl ?_
    go_wp2_with fail
    refine⟨?_,?_⟩
    ·exact trivial
    unfold Line
    have HG9:Hd (w.grownBy (w9.setCell ⟨p,0,none⟩ (.slice A' n' c')) (some p)):=⟨grownBy_trans HG8.o (grownBy_trans (grownBy_below HB9.o) (grownBy_cell w9 p 0 _))⟩
    go_wp2
    go_end0
    rw[HGV.o]
    exact⟨rfl,HG9.o,_,_,(show PassIn _ p regs (stepS true S1 gd id_) _ _ _ from HI9.o)⟩
inductive Runs (regs:Int):(PairV→Prop)→List Ins→List Ins→(PairV→Prop)→List Ins→Prop
 |nil (S:PairV→Prop) (f:List Ins):Runs regs S f [] S f
 |spill (S:PairV→Prop) (f:List Ins) (i:Ins) (cs:List Ins) (S':PairV→Prop) (f':List Ins):i.kind=7→0≤i.d→i.d < 64→0≤i.a→i.a < 64→Runs regs (copiedS S (regs+i.d) i.a) f cs S' f'→Runs regs S f (i :: cs) S' f'
 |fill (S:PairV→Prop) (f:List Ins) (i:Ins) (cs:List Ins) (S':PairV→Prop) (f':List Ins):i.kind=8→0≤i.d→i.d < 64→0≤i.a→i.a < 64→Runs regs (copiedS S i.d (regs+i.a)) f cs S' f'→Runs regs S f (i :: cs) S' f'
 |mtch (S:PairV→Prop) (f:List Ins) (i:Ins) (cs:List Ins) (S':PairV→Prop) (f':List Ins) (S1:PairV→Prop) (g:Ins) (r:List Ins):i.kind≠2→i.kind≠7→i.kind≠8→movesS S f=(S1,g :: r) →
   g.kind=i.kind→g.op=i.op→g.n=i.n→g.args.length=i.args.length→i.args.length≤3→0≤g.d→g.d < 64→0≤i.d→i.d < 128 →
   (∀ j (h1:j < (usesL g.kind g.a g.b g.args).length) (h2:j < (usesL i.kind i.a i.b i.args).length),S1 ⟨(usesL g.kind g.a g.b g.args)[j],(usesL i.kind i.a i.b i.args)[j]⟩) →
   Runs regs (stepS (givesB i.kind) S1 g.d i.d) r cs S' f'→Runs regs S f (i :: cs) S' f'
def FineF (f:List Ins):Prop:=∀ i∈f,i.kind=2→0≤i.d∧i.d < 64
theorem movesS_sub:∀ (f:List Ins) (S:PairV→Prop),∀ i∈(movesS S f).2,i∈f
 |[],S,i,h=>h
 |x :: r,S,i,h=>by
  unfold movesS at h
  split at h
  ·exact List.mem_cons_of_mem _ (movesS_sub r _ i h)
  ·exact h
theorem movesS_fine:∀ (f:List Ins) (S:PairV→Prop),FineF f→SFine S→SFine (movesS S f).1
 |[],S,hf,h=>h
 |x :: r,S,hf,h=>by
  unfold movesS
  split
  ·rename_i e
   have:=hf x (by simp) e
   exact movesS_fine r _ (λi hi=>hf i (by simp[hi])) (movedS_fine h _ _ this.1 this.2)
  ·exact h
theorem stepS_fine {S:PairV→Prop} (h:SFine S) (b:Bool) (v pl:Int) (h0:0≤v) (h1:v < 64) (h2:0≤pl) (h3:pl < 128):SFine (stepS b S v pl):=by
 unfold stepS
 split
 ·exact givenS_fine h _ _ h0 h1 h2 h3
 ·exact h
theorem ins_run (p:Nat) (regs:Int) (h0:0≤regs) (h8:regs≤8) (S:PairV→Prop) (hS:SFine S) (f:List Ins) (hf:FineF f) (i:Ins) (cs:List Ins) (S':PairV→Prop) (f':List Ins) (hr:Runs regs S f (i :: cs) S' f') (hfi:i.Fits) (V:Value) (at_:Int) (w:World)
  (hV:Kd.SK kI w (λb=>b≠p) i.args V) (h:PassAt w p regs S f) :
  Calls Tryz.prog 169 #[.pointer (some ⟨p,0,none⟩),insV i V,.int .i64 at_] w λe w'=>e=.returned (.tuple #[])∧w.grownBy w' (some p)∧∃ S1 f1,SFine S1∧FineF f1∧PassAt w' p regs S1 f1∧Runs regs S1 f1 cs S' f':=by
 cases hr with
 |spill _ _ _ _ _ _ hk a1 a2 a3 a4 hr =>
  have hV1:V.oneCell'=true:=by obtain⟨A,c,rfl,_⟩:=sk_form hV;rfl
  obtain⟨k,op,d,a,b,n,args⟩:=i
  dsimp only at hk a1 a2 a3 a4 hr
  subst hk
  exact(ins_spill p regs S hS f op d a b n at_ V hV1 a1 a2 a3 a4 h0 h8 w h).mono λe w' ⟨e1,e2,e3⟩=>⟨e1,e2,_,_,copiedS_fine hS _ _ (by omega) (by omega),hf,e3,hr⟩
 |fill _ _ _ _ _ _ hk a1 a2 a3 a4 hr =>
  have hV1:V.oneCell'=true:=by obtain⟨A,c,rfl,_⟩:=sk_form hV;rfl
  obtain⟨k,op,d,a,b,n,args⟩:=i
  dsimp only at hk a1 a2 a3 a4 hr
  subst hk
  exact(ins_fill p regs S hS f op d a b n at_ V hV1 a1 a2 a3 a4 h0 h8 w h).mono λe w' ⟨e1,e2,e3⟩=>⟨e1,e2,_,_,copiedS_fine hS _ _ (by omega) (by omega),hf,e3,hr⟩
 |mtch _ _ _ _ _ _ S1 g r k2 k7 k8 hm e1 e2 e3 e4 h3 d0 d1 d2 d3 hu hr =>
  obtain⟨A,c,e,hA⟩:=ski hV
  subst e
  obtain⟨-,-,hA1,hA2,hA3⟩:=hA
  have hs1:SFine S1:=by have:=movesS_fine f S hf hS;rw[hm] at this;exact this
  have hfr:FineF r:=λx hx=>hf x (by have:=movesS_sub f S x;rw[hm] at this;exact this (by simp[hx]))
  refine(ins_match p regs S S1 hS f r g i hf hm k2 k7 k8 e1 e2 e3 e4 (by omega) hfi hu A c w hA1 hA3 at_ h).mono λe w' ⟨e1,e2,e3⟩=>⟨e1,e2,_,_,stepS_fine hs1 _ _ _ d0 d1 d2 d3,hfr,e3,hr⟩
theorem sk_new {α:Type} {k:Kd α} {l:List α} {v:Value} {w w1:World} {ok:Nat→Prop} (h:Kd.SK k w ok l v) (hb:Bel w w1) (p:Nat) (hp:w.heap.size≤p):Kd.SK k w1 (λb=>b≠p) l v :=
 h.stay λb _ hb2=>⟨by omega,hb.block b hb2⟩
theorem rep_new {S:PairV→Prop} {v:Value} {w w1:World} {ok:Nat→Prop} (h:Rep w ok S v) (hb:Bel w w1) (p:Nat) (hp:w.heap.size≤p):Rep w1 (λb=>b≠p) S v :=
 h.stay λb _ hb2=>⟨by omega,hb.block b hb2⟩
theorem block_ok (x y:Block) (regs:Int) (h0:0≤regs) (h8:regs≤8) (S S1 S2:PairV→Prop) (hS:SFine S) (f1:List Ins) (hf:FineF x.ins) (hr:Runs regs S x.ins y.ins S1 f1) (hm:movesS S1 f1=(S2,[]))
  (hend:y.fin={ x.fin with a:=y.fin.a }) (hu:lastB x.fin.kind=true→S2 ⟨x.fin.a,y.fin.a⟩) (hyl:y.ins.length≤1000) (ok ok2 ok3:Nat→Prop) (xv yv lv:Value) (w:World)
  (hx:Kd.SK kIns w ok x.ins xv) (hy:Kd.SK kIns w ok2 y.ins yv) (hl:Rep w ok3 S lv) :
  Calls Tryz.prog 139 #[.agg #[xv,.int .u8 x.fin.kind,.int .i64 x.fin.a,.int .i64 x.fin.to_,.int .i64 x.fin.else_],.agg #[yv,.int .u8 y.fin.kind,.int .i64 y.fin.a,.int .i64 y.fin.to_,.int .i64 y.fin.else_],.int .i64 regs,lv] w
   λe w'=>∃ p,e=.returned (.pointer (some ⟨p,0,none⟩))∧w.heap.size≤p∧Bel w w'∧PassAt w' p regs S2 []:=by
 obtain⟨xi,xk,xa,xt,xs⟩:=x
 obtain⟨yi,yk,ya,yt,ys⟩:=y
 dsimp only at *
 simp only[End.mk.injEq,true_and] at hend
 obtain⟨rfl,rfl,rfl⟩:=hend
 obtain⟨Ax,cx,rfl,hx1,hx2⟩:=sk_form hx
 obtain⟨Ay,cy,rfl,hy1,hy2⟩:=sk_form hy
 obtain⟨Al,nl,cl,rfl⟩:=hl.form
 have HX:=Hm hx
 have HY:=Hm hy
 have HL:=Hm hl
 have HS:=Hm hS
 have HF:=Hm hf
 have HR:=Hm hr
 have HM:=Hm hm
 have HU:=Hm hu
 clear hx hy hl hS hf hr hm hu
 go_enter Tryz.func139,Tryz.ntmps139
 go_wp2_with fail
 obtain⟨w0,hw0⟩:∃ w0,w0=((w.alloc (.cells #[.slice Ax xi.length cx,.int .u8 yk,.int .i64 xa,.int .i64 yt,.int .i64 ys] 97)).alloc (.cells #[.slice Ay yi.length cy,.int .u8 yk,.int .i64 ya,.int .i64 yt,.int .i64 ys] 97)).alloc (.cells #[.slice Al nl cl,.int .i64 regs,.slice Ax xi.length cx,.int .i64 0,.int .i64 0,.bool false] 264):=⟨_,rfl⟩
 obtain⟨p,hp⟩:∃ p,p=w.heap.size+1+1:=⟨_,rfl⟩
 obtain⟨q,hq⟩:∃ q,q=w.heap.size:=⟨_,rfl⟩
 have HB0:Hd (Bel w w0):=⟨by rw[hw0];exact bA (bA (bA (bR w) _) _) _⟩
 have HXb:Hd (w0.heap[q]?=some (.cells #[.slice Ax xi.length cx,.int .u8 yk,.int .i64 xa,.int .i64 yt,.int .i64 ys] 97 (0,0))):=⟨by
  rw[hw0,hq,heap_old _ _ _ (by simp;omega),heap_old _ _ _ (by simp)];exact heap_new _ _⟩
 have HYb:Hd (w0.heap[q+1]?=some (.cells #[.slice Ay yi.length cy,.int .u8 yk,.int .i64 ya,.int .i64 yt,.int .i64 ys] 97 (0,0))):=⟨by
  rw[hw0,hq,heap_old _ _ _ (by simp)]
  have:=heap_new (w.alloc (.cells #[.slice Ax xi.length cx,.int .u8 yk,.int .i64 xa,.int .i64 yt,.int .i64 ys] 97)) (.cells #[.slice Ay yi.length cy,.int .u8 yk,.int .i64 ya,.int .i64 yt,.int .i64 ys] 97)
  simpa using this⟩
 have HP0:Hd (PassAt w0 p regs S xi):=⟨_,_,by
  rw[hw0,hp]
  have:=heap_new ((w.alloc (.cells #[.slice Ax xi.length cx,.int .u8 yk,.int .i64 xa,.int .i64 yt,.int .i64 ys] 97)).alloc (.cells #[.slice Ay yi.length cy,.int .u8 yk,.int .i64 ya,.int .i64 yt,.int .i64 ys] 97)) (.cells #[.slice Al nl cl,.int .i64 regs,.slice Ax xi.length cx,.int .i64 0,.int .i64 0,.bool false] 264)
  simpa using this,rep_new HL.o HB0.o p (by omega),sk_new HX.o HB0.o p (by omega)⟩
 have HY0:=Hm (sk_new HY.o HB0.o p (by omega))
 have HPQ:Hd (w.heap.size≤p∧q≠p∧q+1≠p):=⟨by omega,by omega,by omega⟩
 rw[←hw0,←hp,←hq]
 clear hw0 hp hq HX HY HL
 go_loopw [25] (λi wr=>∃ (j:Nat) (S':PairV→Prop) (f':List Ins),j≤yi.length∧i=.int .i64 j∧SFine S'∧FineF f'∧w0.grownBy wr (some p)∧PassAt wr p regs S' f'∧Runs regs S' f' (yi.drop j) S1 f1) (λi _=>yi.length-(intOf i).toNat)
 case atStart=>exact⟨0,S,xi,Nat.zero_le _,rfl,HS.o,HF.o,grownBy_refl _ _,HP0.o,HR.o⟩
 case round =>
  obtain⟨j,S',f',hj,rfl,hs',hf',hg,hp',hr⟩:=hrel
  have HS':=Hm hs'
  have HF':=Hm hf'
  have HG:=Hm hg
  have HP':=Hm hp'
  have HR':=Hm hr
  clear hs' hf' hg hp' hr
  by_cases hlt:j < yi.length
  ·have hyr:=HY0.o.stay (Stays.grown HG.o (ok:=λb=>b≠p) (λb hb e=>hb (by simpa using e)))
   obtain⟨blk,off,c,v1,e,hob,hfit,hsk,z0,z1,z2,z3,z4,z5,z6⟩:=sk_ins hyr j hlt
   simp only[Value.slice.injEq] at e
   obtain⟨rfl,-,rfl⟩:=e
   have hdr:yi.drop j=yi[j] :: yi.drop (j+1):=List.drop_eq_getElem_cons hlt
   rw[hdr] at HR'
   clear hdr hyr
   have HIR:=Hm (λ(wx:World) (hb:Bel wr wx)=>ins_run p regs h0 h8 S' HS'.o f' HF'.o yi[j] (yi.drop (j+1)) S1 f1 HR'.o hfit v1 j wx (sk_bel hsk hb) (by obtain⟨lv,fv,h⟩:=HP'.o;exact⟨lv,fv,h.bel hb⟩))
   obtain⟨A1,c1,rfl,-,-⟩:=sk_form hsk
   generalize yi[j]=y at *
   clear hsk hfit
   unfold insV at HIR
   go_wp2_with fail
   refine(HIR.o _ (bA (bR wr) _)).mono ?_
   rintro e w2 ⟨rfl,hg2,S2',f2,hs2,hf2,⟨lv2,fv2,hp2⟩,hr2⟩
   have HS2:=Hm hs2
   have HF2:=Hm hf2
   have HG2:=Hm (grownBy_trans HG.o (grownBy_trans (grownBy_below (row:=some p) (bA (bR wr) _)) hg2))
   have HP2:=Hm hp2
   have HR2:=Hm hr2
   have c5:=hp2.c5
   clear hs2 hf2 hg2 hp2 hr2 z0 z1 z2 z3 z4 z5 z6
   go_wp2_with fail
   go_roundw
   case rel=>exact⟨j+1,_,_,by omega,by go_num,HS2.o,HF2.o,HG2.o,⟨_,_,HP2.o⟩,HR2.o⟩
   case measure=>simp[intOf];omega
  ·obtain rfl:j=yi.length:=by omega
   rw[List.drop_length] at HR'
   obtain⟨rfl,rfl⟩:S'=S1∧f'=f1:=by cases HR'.o;exact⟨rfl,rfl⟩
   have HMv:=Hm (moves_ok p regs S' HS'.o f' HF'.o wr HP'.o)
   rw[HM.o] at HMv
   have hyb:=(HG.o.block _ (Array.getElem?_eq_some_iff.1 HYb.o).1 (by have:=HPQ.o.2.2;simpa using this)).trans HYb.o
   have hxb:=(HG.o.block _ (Array.getElem?_eq_some_iff.1 HXb.o).1 (by have:=HPQ.o.2.1;simpa using this)).trans HXb.o
   have HYr:=Hm hyb
   have HXr:=Hm hxb
   have y0:wr.cell? ⟨q+1,0,none⟩=some (.slice Ay yi.length cy):=by unfold World.cell?;rw[hyb];rfl
   clear hyb hxb
   go_wp2_with fail
   refine HMv.o.mono ?_
   rintro e w2 ⟨rfl,hg2,⟨lv2,fv2,hp2⟩,hs2⟩
   have HS2:=Hm hs2
   have HG2:=Hm (grownBy_trans HG.o hg2)
   have HP2:=Hm hp2
   have hyb:=(hg2.block _ (Array.getElem?_eq_some_iff.1 HYr.o).1 (by have:=HPQ.o.2.2;simpa using this)).trans HYr.o
   have hxb:=(hg2.block _ (Array.getElem?_eq_some_iff.1 HXr.o).1 (by have:=HPQ.o.2.1;simpa using this)).trans HXr.o
   have c2:=hp2.c2
   obtain⟨Af,cf,rfl,-,-⟩:=sk_form hp2.ins
   have y1:w2.cell? ⟨q+1,1,none⟩=some (.int .u8 yk):=by unfold World.cell?;rw[hyb];rfl
   have y2:w2.cell? ⟨q+1,2,none⟩=some (.int .i64 ya):=by unfold World.cell?;rw[hyb];rfl
   have y3:w2.cell? ⟨q+1,3,none⟩=some (.int .i64 yt):=by unfold World.cell?;rw[hyb];rfl
   have y4:w2.cell? ⟨q+1,4,none⟩=some (.int .i64 ys):=by unfold World.cell?;rw[hyb];rfl
   have x1:w2.cell? ⟨q,1,none⟩=some (.int .u8 yk):=by unfold World.cell?;rw[hxb];rfl
   have x2:w2.cell? ⟨q,2,none⟩=some (.int .i64 xa):=by unfold World.cell?;rw[hxb];rfl
   have x3:w2.cell? ⟨q,3,none⟩=some (.int .i64 yt):=by unfold World.cell?;rw[hxb];rfl
   have x4:w2.cell? ⟨q,4,none⟩=some (.int .i64 ys):=by unfold World.cell?;rw[hxb];rfl
   clear hyb hxb hg2 hp2 hs2 y0
   have hq2:q < w2.heap.size:=World.block_lt_of_cell? w2 _ x1
   have hq3:q+1 < w2.heap.size:=World.block_lt_of_cell? w2 _ y1
   have hpl:p < w2.heap.size:=HP2.o.lt
   simp only[List.length_nil] at c2⊢
   have HLa:=Hm (λw'=>last_any yk xa yt ys w')
   go_wp2_with fail
   refine(HLa.o _).mono ?_
   rintro e w3 ⟨rfl,hb3⟩
   have HB3:=Hm (bT (bA (bR w2) _) hb3)
   have HP3:=Hm (HP2.o.bel HB3.o)
   have HG3:=Hm (grownBy_trans HG2.o (grownBy_below (row:=some p) HB3.o))
   have y2':=bCell HB3.o y2
   have hq3':q+1 < w3.heap.size:=World.block_lt_of_cell? w3 _ y2'
   clear hb3 y1 y2 y3 y4 x1 x2 x3 x4 c2
   cases hlb:lastB yk with
   |false =>
    clear hlb
    go_wp2
    go_ret
    exact⟨p,rfl,HPQ.o.1,bG HB0.o HG3.o (λk hk=>by cases hk;exact HPQ.o.1),_,_,HP3.o⟩
   |true =>
    have HU3:=Hm (HU.o hlb)
    have HUs:=Hm (use_ok p regs S2 HS2.o [] w3 ⟨_,_,HP3.o⟩ xa ya yi.length HU3.o)
    clear hlb
    go_wp2_with fail
    refine HUs.o.mono ?_
    rintro e w4 ⟨rfl,hb4⟩
    have HB4:=Hm hb4
    have HP4:=Hm (HP3.o.bel HB4.o)
    have HG4:=Hm (grownBy_trans HG3.o (grownBy_below (row:=some p) HB4.o))
    clear hb4
    go_wp2
    go_ret
    exact⟨p,rfl,HPQ.o.1,bG HB0.o HG4.o (λk hk=>by cases hk;exact HPQ.o.1),_,_,HP4.o⟩
theorem hcell {w:World} {b:Nat} {cs:Array Value} {t:TypeId} {fz:Nat × Nat} (h:w.heap[b]?=some (.cells cs t fz)) (k:Nat):w.cell? ⟨b,k,none⟩=cs[k]?:=by
 unfold World.cell?
 rw[h]
 rfl
theorem halloc (w:World) (o:Obj) (b:Nat):(w.alloc o).heap[b]?=if b=w.heap.size then some o else w.heap[b]?:=by
 show (w.heap.push o)[b]?=_
 rw[Array.getElem?_push]
theorem hnew {w:World} {o:Obj} {b:Nat} (h:b=w.heap.size):(w.alloc o).heap[b]?=some o:=by rw[halloc,if_pos h]
theorem hold {w:World} {o:Obj} {b:Nat} {r:Option Obj} (h:w.heap[b]?=r) (hb:b < w.heap.size):(w.alloc o).heap[b]?=r:=by rw[halloc,if_neg (by omega)];exact h
theorem hfree {w:World} {b:Nat} {cs:Array Value} {t:TypeId} (h:w.heap[b]?=some (.cells cs t (0,0))) (k:Nat):w.frozen? ⟨b,k,none⟩=false:=by
 unfold World.frozen?
 rw[h]
 simp
theorem hlt {w:World} {b:Nat} {o:Obj} (h:w.heap[b]?=some o):b < w.heap.size:=(Array.getElem?_eq_some_iff.1 h).1
theorem hset {w:World} {b p k:Nat} {v:Value} {o:Obj} (h:w.heap[b]?=some o) (hne:b≠p):(w.setCell ⟨p,k,none⟩ v).heap[b]?=some o:=by
 rw[heap_setCell_other w ⟨p,k,none⟩ b v hne];exact h
structure Only (w w':World) (F:Nat→Prop):Prop where
 os:w'.os=w.os
 tape:w'.tape=w.tape
 output:w'.output=w.output
 size:w.heap.size≤w'.heap.size
 block:∀ b,b < w.heap.size→¬F b→w'.heap[b]?=w.heap[b]?
theorem Only.refl (w:World) (F:Nat→Prop):Only w w F:=⟨rfl,rfl,rfl,Nat.le_refl _,λ_ _ _=>rfl⟩
theorem Only.trans {w w1 w2:World} {F G:Nat→Prop} (h:Only w w1 F) (k:Only w1 w2 G) (hG:∀ b,b < w.heap.size→G b→F b):Only w w2 F :=
 ⟨k.os.trans h.os,k.tape.trans h.tape,k.output.trans h.output,Nat.le_trans h.size k.size,λb hb hF=>(k.block b (Nat.lt_of_lt_of_le hb h.size) (λhg=>hF (hG b hb hg))).trans (h.block b hb hF)⟩
theorem Only.bel {w w':World} {F:Nat→Prop} (h:Bel w w'):Only w w' F:=⟨h.os,h.tape,h.output,h.size,λb hb _=>h.block b hb⟩
theorem Only.grown {w w':World} {F:Nat→Prop} {row:Option Nat} (h:w.grownBy w' row) (hr:∀ g,row=some g→F g):Only w w' F :=
 ⟨h.os,h.tape,h.output,h.size,λb hb hF=>h.block b hb (λe=>hF (hr b e.symm))⟩
theorem Only.weaken {w w':World} {F G:Nat→Prop} (h:Only w w' F) (hG:∀ b,b < w.heap.size→F b→G b):Only w w' G:=⟨h.os,h.tape,h.output,h.size,λb hb hg=>h.block b hb (λhf=>hg (hG b hb hf))⟩
theorem Only.stays {w w':World} {F:Nat→Prop} {ok:Nat→Prop} (h:Only w w' F) (hF:∀ b,ok b→¬F b):Stays w w' ok ok:=λb ho hb=>⟨ho,h.block b hb (hF b ho)⟩
theorem Only.heap {w w':World} {F:Nat→Prop} (h:Only w w' F) {b:Nat} {o:Obj} (hb:w.heap[b]?=some o) (hF:¬F b):w'.heap[b]?=some o:=by rw[h.block b (hlt hb) hF];exact hb
theorem Only.toBel {w w':World} {F:Nat→Prop} (h:Only w w' F) (hF:∀ b,b < w.heap.size→¬F b):Bel w w':=⟨h.os,h.tape,h.output,h.size,λb hb=>h.block b hb (hF b hb)⟩
theorem Only.belLeft {w w1 w2:World} {F:Nat→Prop} (h:Bel w w1) (k:Only w1 w2 F):Only w w2 F :=
 ⟨k.os.trans h.os,k.tape.trans h.tape,k.output.trans h.output,Nat.le_trans h.size k.size,λb hb hF=>(k.block b (Nat.lt_of_lt_of_le hb h.size) hF).trans (h.block b hb)⟩
section
variable {w w':World} {base:Nat} {ok:Nat→Prop} {F:Nat→Prop}
theorem KRow.only {α:Type} {k:Kd α} {e:TypeId} {xs:List α} {v:Value} (h:KRow k w base e ok xs v) (hs:Only w w' F) (h1:∀ b,v.ownBlock=some b→¬F b) (h2:∀ b,ok b→¬F b):KRow k w' base e ok xs v:=by
 obtain⟨⟨vs,h3,h4⟩,h5,h6⟩:=h
 refine⟨⟨vs,?_,h4.stay (hs.stays h2)⟩,h5,λb hb=>Nat.lt_of_lt_of_le (h6 b hb) hs.size⟩
 obtain⟨h7,h8⟩:=h3
 refine⟨h7,?_⟩
 rcases h8 with h8|⟨g,cap,cur,hv,hb,hh,h9⟩
 ·exact .inl h8
 ·refine .inr ⟨g,cap,cur,hv,hb,?_,h9⟩
  subst hv
  exact hs.heap hh (h1 g rfl)
theorem own_only {e size n:Nat} {v:Value} {xs:List Value} (h:w.ownsRow base e size v n xs) (hs:Only w w' F) (h1:∀ b,v.ownBlock=some b→¬F b):w'.ownsRow base e size v n xs:=by
 obtain⟨h7,h8⟩:=h
 refine⟨h7,?_⟩
 rcases h8 with h8|⟨g,cap,cur,hv,hb,hh,h9⟩
 ·exact .inl h8
 ·refine .inr ⟨g,cap,cur,hv,hb,?_,h9⟩
  subst hv
  exact hs.heap hh (h1 g rfl)
theorem row_only {A:Option Addr} {vs:List Value} (h:Row w A vs) (hs:Only w w' F) (hA:∀ a,A=some a→¬F a.block):Row w' A vs:=λj hj=>by
 obtain⟨b,off,e,hc⟩:=h j hj
 refine⟨b,off,e,?_⟩
 rw[cell_of_heap (a:=⟨b,off+j,none⟩) (hs.block b (World.block_lt_of_cell? w _ hc) (hA _ e))]
 exact hc
end
theorem runs_fine {regs:Int} (h0:0≤regs) (h8:regs≤8) {S S':PairV→Prop} {f cs f':List Ins} (h:Runs regs S f cs S' f'):SFine S→FineF f→SFine S'∧FineF f':=by
 induction h with
 |nil=>intro a b;exact⟨a,b⟩
 |spill S f i cs S' f' hk a1 a2 a3 a4 hr ih=>intro a b;exact ih (copiedS_fine a _ _ (by omega) (by omega)) b
 |fill S f i cs S' f' hk a1 a2 a3 a4 hr ih=>intro a b;exact ih (copiedS_fine a _ _ (by omega) (by omega)) b
 |mtch S f i cs S' f' S1 g r k2 k7 k8 hm e1 e2 e3 e4 h3 d0 d1 d2 d3 hu hr ih =>
  intro a b
  have hs1:SFine S1:=by have:=movesS_fine f S b a;rw[hm] at this;exact this
  exact ih (stepS_fine hs1 _ _ _ d0 d1 d2 d3) (λx hx=>b x (by have:=movesS_sub f S x;rw[hm] at this;exact this (by simp[hx])))
theorem shape_ok (f:Func) (c:Code) (hf:FuncOk f) (hc:CodeOk c) (hp:f.params=c.params) (hl:f.blocks.length=c.blocks.length) (ok ok2:Nat→Prop) (v u:Value) (w:World) (hv:Kd.SK kBlock w ok f.blocks v) (hu:Kd.SK kBlock w ok2 c.blocks u) :
  Calls Tryz.prog 135 #[.agg #[.int .i64 f.params,.int .i64 f.vregs,v],.agg #[.int .i64 c.params,.int .i64 c.regs,.int .i64 c.slots,u]] w λe w'=>e=.returned (.bool true)∧Bel w w':=by
 have HF:=Hm (λ(w':World) (hb:Bel w w')=>check_ok f hf ok v w' (sk_bel hv hb))
 have HC:=Hm (λ(w':World) (hb:Bel w w')=>mcheck_ok c hc ok2 u w' (sk_bel hu hb))
 obtain⟨A,ca,rfl,-,-⟩:=sk_form hv
 obtain⟨B,cb,rfl,-,-⟩:=sk_form hu
 obtain⟨fp,fv,fb⟩:=f
 obtain⟨cp,cr,cs,cbl⟩:=c
 dsimp only at *
 subst hp
 rw[←hl] at *
 clear hf hc hl hv hu
 have hrf:=run_fault
 go_enter Tryz.func135,Tryz.ntmps135
 go_wp2_with fail
 refine(HF.o _ (bA (bA (bR w) _) _)).mono ?_
 rintro e w1 ⟨rfl,hb1⟩
 have HB1:=Hm hb1
 obtain⟨hc1,hf1⟩:=bcell hb1
 clear hb1
 go_wp2_with fail
 have HC2:=HC.o w1 (bT (bA (bA (bR w) _) _) HB1.o)
 refine HC2.mono ?_
 rintro e w2 ⟨rfl,hb2⟩
 have HB2:=Hm (bT HB1.o hb2)
 obtain⟨hc2,hf2⟩:=bcell HB2.o
 clear hb2 hc1 hf1 HC2
 go_wp2
 go_ret
 exact⟨rfl,bT (bA (bA (bR w) _) _) HB2.o⟩
structure BlockRuns (regs:Int) (cert:List (List PairV)) (x y:Block) (S:List PairV):Prop where
 ex:∃ (S1 S2:PairV→Prop) (f1:List Ins),Runs regs (·∈S) x.ins y.ins S1 f1∧movesS S1 f1=(S2,[])∧(lastB x.fin.kind=true→S2 ⟨x.fin.a,y.fin.a⟩)∧∀ n∈nextL x.fin.kind x.fin.to_ x.fin.else_,0≤n∧n < cert.length∧∀ (h:n.toNat < cert.length),∀ p∈cert[n.toNat],S2 p
 fin:y.fin={ x.fin with a:=y.fin.a }
structure Verified (f:Func) (c:Code) (cert:List (List PairV)):Prop where
 func:FuncOk f
 code:CodeOk c
 params:f.params=c.params
 lc:f.blocks.length=c.blocks.length
 lt:f.blocks.length=cert.length
 rise:∀ l∈cert,l.Pairwise PLt
 fits:∀ l∈cert,∀ p∈l,0≤p.v∧p.v < f.vregs∧0≤p.l∧p.l < c.regs+c.slots
 entry:∀ (h:0 < cert.length),∀ p∈cert[0],p∈firstL f.params.toNat c.regs.toNat (c.regs+c.slots).toNat f.vregs.toNat
 blocks:∀ j (h1:j < f.blocks.length) (h2:j < c.blocks.length) (h3:j < cert.length),BlockRuns c.regs cert f.blocks[j] c.blocks[j] cert[j]
 moves:∀ b∈f.blocks,FineF b.ins
theorem verify_ok (f:Func) (c:Code) (cert:List (List PairV)) (H:Verified f c cert) (ok ok2 ok3:Nat→Prop) (v u t:Value) (w:World) (hv:Kd.SK kBlock w ok f.blocks v) (hu:Kd.SK kBlock w ok2 c.blocks u) (ht:Kd.SK kPairs w ok3 cert t) :
  Calls Tryz.prog 107 #[.agg #[.int .i64 f.params,.int .i64 f.vregs,v],.agg #[.int .i64 c.params,.int .i64 c.regs,.int .i64 c.slots,u],t] w λe w'=>e=.returned (.agg #[.int .i64 0,.int .i64 0,.int .i64 0])∧Bel w w':=by
 have HSh:=Hm (λ(w':World) (hb:Bel w w')=>shape_ok f c H.func H.code H.params H.lc ok ok2 v u w' (sk_bel hv hb) (sk_bel hu hb))
 obtain⟨fp,fv,fb⟩:=f
 obtain⟨cp,cr,cs,cbl⟩:=c
 have hfp:=H.func.p0
 have hfp4:=H.func.p4
 have hfv:=H.func.pv
 have hfv32:=H.func.v32
 have hcr3:=H.code.r3
 have hcr8:=H.code.r8
 have hps:=H.code.ps
 have hcs:=H.code.s64
 have hcpp:=H.params
 dsimp only at *
 subst hcpp
 obtain⟨fp,rfl⟩:∃ n:Nat,fp=(n:Int):=⟨fp.toNat,by omega⟩
 obtain⟨fv,rfl⟩:∃ n:Nat,fv=(n:Int):=⟨fv.toNat,by omega⟩
 obtain⟨cr,rfl⟩:∃ n:Nat,cr=(n:Int):=⟨cr.toNat,by omega⟩
 obtain⟨cs,rfl⟩:∃ n:Nat,cs=(n:Int):=⟨cs.toNat,by omega⟩
 have HBd:Hd (fp≤4∧fv≤32∧cr≤8∧cs≤64∧3≤cr):=⟨by omega,by omega,by omega,by omega,by omega⟩
 have hwr:IntKind.i64.wrap ((cr:Int)+cs)=(cr:Int)+cs:=by simp[IntKind.wrap,IntKind.bits,IntKind.signed];omega
 have HH:=Hm H
 obtain⟨n,hn⟩:∃ n,n=cert.length:=⟨_,rfl⟩
 have e1:fb.length=n:=by rw[hn];exact H.lt
 have e2:cbl.length=n:=by rw[←e1];exact H.lc.symm
 have e3:cert.length=n:=hn.symm
 have HE:=Hm (And.intro e1 (And.intro e2 e3))
 have hn1:1≤n:=by rw[←e1];exact H.func.n1
 have hn16:n≤16:=by rw[←e1];exact H.func.n16
 have HV:=Hm hv
 have HU:=Hm hu
 have HT:=Hm ht
 obtain⟨A,ca,rfl,-,-⟩:=sk_form hv
 obtain⟨B,cb,rfl,-,-⟩:=sk_form hu
 obtain⟨C,ct,rfl,-,-⟩:=sk_form ht
 rw[e1,e2] at HSh
 rw[e1,e2,e3]
 rw[e1] at HV
 rw[e2] at HU
 rw[e3] at HT
 clear H hv hu ht hfp hfp4 hfv hfv32 hcr3 hcr8 hps hcs hn e1 e2 e3
 go_enter Tryz.func107,Tryz.ntmps107
 go_wp2_with fail
 obtain⟨w0,hw0⟩:∃ w0,w0=(((w.alloc (.cells #[.int .i64 fp,.int .i64 fv,.slice A n ca] 99)).alloc (.cells #[.int .i64 fp,.int .i64 cr,.int .i64 cs,.slice B n cb] 59)).alloc (.cells #[.int .i64 0,.int .i64 0,.int .i64 0] 193)).alloc (.cells #[.int .i64 30,.int .i64 (-1),.int .i64 (-1)] 193):=⟨_,rfl⟩
 have HB0:Hd (Bel w w0):=⟨by rw[hw0];exact bA (bA (bA (bA (bR w) _) _) _) _⟩
 obtain⟨q,hq⟩:∃ q,q=w.heap.size:=⟨_,rfl⟩
 have K0:Hd (w0.heap[q]?=some (.cells #[.int .i64 fp,.int .i64 fv,.slice A n ca] 99 (0,0))):=⟨by rw[hw0,hq];exact hold (hold (hold (hnew rfl) (by simp only[World.size_alloc];omega)) (by simp only[World.size_alloc];omega)) (by simp only[World.size_alloc];omega)⟩
 have K1:Hd (w0.heap[q+1]?=some (.cells #[.int .i64 fp,.int .i64 cr,.int .i64 cs,.slice B n cb] 59 (0,0))):=⟨by rw[hw0,hq];exact hold (hold (hnew (by simp only[World.size_alloc])) (by simp only[World.size_alloc];omega)) (by simp only[World.size_alloc];omega)⟩
 have K2:Hd (w0.heap[q+1+1]?=some (.cells #[.int .i64 0,.int .i64 0,.int .i64 0] 193 (0,0))):=⟨by rw[hw0,hq];exact hold (hnew (by simp only[World.size_alloc])) (by simp only[World.size_alloc];omega)⟩
 have K3:Hd (w0.heap[q+1+1+1]?=some (.cells #[.int .i64 30,.int .i64 (-1),.int .i64 (-1)] 193 (0,0))):=⟨by rw[hw0,hq];exact hnew (by simp only[World.size_alloc])⟩
 have HQ:Hd (w.heap.size=q):=⟨hq.symm⟩
 rw[←hw0,←hq]
 have HS0:=Hm (HSh.o w0 HB0.o)
 clear hw0 hq HSh
 refine HS0.o.mono ?_
 rintro e w1 ⟨rfl,hb1⟩
 have HB1:=Hm (bT HB0.o hb1)
 replace K0:=Hm (bHeap hb1 K0.o)
 replace K1:=Hm (bHeap hb1 K1.o)
 replace K2:=Hm (bHeap hb1 K2.o)
 replace K3:=Hm (bHeap hb1 K3.o)
 clear hb1 HB0 HS0
 have z0:=hcell K3.o 0
 have gz:=hfree K3.o 0
 have a2:w1.cell? ⟨q,2,none⟩=some (.slice A n ca):=hcell K0.o 2
 have hql:=hlt K3.o
 have hql2:=hlt K0.o
 go_wp2_with fail
 have HB2:Hd (Bel w (w1.setCell ⟨q+1+1+1,0,none⟩ (.int .i64 31))):=⟨bC HB1.o (by have:=HQ.o;omega) _ _⟩
 replace K0:=Hm (hset (p:=q+1+1+1) (k:=0) (v:=.int .i64 31) K0.o (by omega))
 replace K1:=Hm (hset (p:=q+1+1+1) (k:=0) (v:=.int .i64 31) K1.o (by omega))
 replace K2:=Hm (hset (p:=q+1+1+1) (k:=0) (v:=.int .i64 31) K2.o (by omega))
 generalize w1.setCell ⟨q+1+1+1,0,none⟩ (.int .i64 31)=w2 at *
 clear HB1 K3 z0 gz a2 hql hql2
 have HT2:=Hm (sk_bel HT.o HB2.o)
 have HV2:=Hm (sk_bel HV.o HB2.o)
 have HU2:=Hm (sk_bel HU.o HB2.o)
 clear HT HV HU
 go_loopw [30] (λi wr=>∃ j:Nat,j≤n∧i=.int .i64 j∧Bel w2 wr) (λi _=>n-(intOf i).toNat)
 case atStart=>exact⟨0,Nat.zero_le _,rfl,bR _⟩
 case round =>
  obtain⟨j,hj,rfl,hb⟩:=hrel
  have HBr:=Hm hb
  clear hb
  have k0:=bHeap HBr.o K0.o
  have k1:=bHeap HBr.o K1.o
  have a1:wr.cell? ⟨q,1,none⟩=some (.int .i64 fv):=hcell k0 1
  have b1:wr.cell? ⟨q+1,1,none⟩=some (.int .i64 cr):=hcell k1 1
  have b2:wr.cell? ⟨q+1,2,none⟩=some (.int .i64 cs):=hcell k1 2
  have hq0:=hlt k0
  have hq1:=hlt k1
  have KK:=Hm (And.intro k0 k1)
  clear k0 k1
  by_cases hltj:j < n
  ·have hjc:j < cert.length:=by rw[HE.o.2.2];exact hltj
   have hT:=sk_bel HT2.o HBr.o
   rw[←HE.o.2.2] at hT
   obtain⟨b,off,c,v1,e,-,hsk,z0⟩:=sk_pairs hT j hjc
   rw[HE.o.2.2] at e
   simp only[Value.slice.injEq] at e
   obtain⟨rfl,-,rfl⟩:=e
   have HRt:=Hm (right_any _ (HH.o.rise _ (List.getElem_mem hjc)) fv (cr+cs) (HH.o.fits _ (List.getElem_mem hjc)) _ v1 wr hsk)
   obtain⟨A1,c1,rfl,-,-⟩:=sk_form hsk
   clear hT hsk
   generalize cert[j]=cj at *
   go_wp2_with fail
   refine HRt.o.mono ?_
   rintro e w3 ⟨hb3,rfl⟩
   have HB3:=Hm (bT HBr.o hb3)
   clear hb3 z0 a1 b1 b2
   go_wp2_with fail
   go_roundw
   case rel=>exact⟨j+1,by omega,by go_num,HB3.o⟩
   case measure=>simp[intOf];omega
  ·obtain rfl:j=n:=by omega
   have hjc:0 < cert.length:=by rw[HE.o.2.2];exact hn1
   have hT:=sk_bel HT2.o HBr.o
   rw[←HE.o.2.2] at hT
   obtain⟨b,off,c,v1,e,-,hsk,z0⟩:=sk_pairs hT 0 hjc
   rw[HE.o.2.2] at e
   simp only[Value.slice.injEq] at e
   obtain⟨rfl,-,rfl⟩:=e
   obtain⟨A1,c1,rfl,-,-⟩:=sk_form hsk
   have HFi:=Hm (λ(wx:World)=>first_any fp fv cr cs (by have:=HBd.o;omega) (by have:=HBd.o;omega) (by have:=HBd.o;omega) (by have:=HBd.o;omega) wx)
   have HEn:Hd (∀ p∈cert[0],p∈firstL fp cr (cr+cs) fv):=⟨by
    have:=HH.o.entry hjc
    rw[show ((cr:Int)+cs).toNat=cr+cs from by omega,Int.toNat_natCast,Int.toNat_natCast,Int.toNat_natCast] at this
    exact this⟩
   have HSk:=Hm hsk
   clear hT hsk
   generalize cert[0]=c0 at *
   have a0:wr.cell? ⟨q,0,none⟩=some (.int .i64 fp):=hcell KK.o.1 0
   have h0j:0 < j:=hn1
   rw[Nat.add_zero] at z0
   go_wp2_with fail
   refine rgn [.rd 0,.rd 1,.rd 2,.rd 3,.rd 4,.rd 5,.rd 6,.rd 7,.rd 8,.rd 9,.rd 10,.hv 11 [0,1,2],.hv 12 [],.rd 13] (n:=135) rfl ?_
   iterate 11 (refine line_rd rfl (λK hK=>?_);go_simp;refine hK _ ?_;clear hK K)
   refine line_hv rfl ?_
   go_wp2_with fail
   refine(HFi.o _).mono ?_
   rintro e w3 ⟨v3,rfl,hnew3⟩
   have hb3:Bel wr w3:=bU hnew3.1
   have HB3:=Hm (bT HBr.o hb3)
   have HWi:=Hm (λ(wx:World) (hb:Bel w3 wx)=>within_any c0 _ (firstL_pw fp cr (cr+cs) fv) HEn.o (by have:=firstL_len fp cr (cr+cs) fv;have:=HBd.o;have:fv*(cr+cs)≤32*72:=Nat.mul_le_mul (by omega) (by omega);omega) _ _ _ _ wx (sk_bel HSk.o (bT hb3 hb)) (sk_bel hnew3.2 hb))
   obtain⟨A3,n3,rfl,-,-⟩:=sk_form hnew3.2
   have z0:=bCell hb3 z0
   clear hnew3 hb3
   go_wp2_with fail
   refine⟨?_,?_⟩
   ·simp only[Again,slotOf]
    go_simp
   refine line_hv rfl ?_
   go_wp2_with fail
   refine(HWi.o _ (bR w3)).mono ?_
   rintro e w4 ⟨hb4,rfl⟩
   have HB4:=Hm (bT HB3.o hb4)
   clear hb4 z0 a0 b1 b2 a1 HWi
   go_wp2_with fail
   refine⟨?_,?_⟩
   ·exact trivial
   iterate 1 (refine line_rd rfl (λK hK=>?_);go_simp;refine hK _ ?_;clear hK K)
   unfold Line
   have k0:=bHeap HB4.o K0.o
   have a2:w4.cell? ⟨q,2,none⟩=some (.slice A j ca):=hcell k0 2
   have hq0:=hlt k0
   clear k0
   go_wp2_with fail
   clear a2 hq0 hq1 h0j HFi HEn HSk HB3 KK hltj
   obtain⟨n,rfl⟩:∃ n,n=j:=⟨_,rfl⟩
   have HBs:=Hm HB4.o
   clear HBr HB4
   obtain⟨ws,hws⟩:∃ ws,ws=w4:=⟨_,rfl⟩
   rw[←hws] at HBs⊢
   clear hws w4
   go_loopw [66] (λi wr=>∃ j:Nat,j≤n∧i=.int .i64 j∧Bel w2 wr) (λi _=>n-(intOf i).toNat)
   case atStart=>exact⟨0,Nat.zero_le _,rfl,HBs.o⟩
   case round =>
    obtain⟨j,hj,rfl,hb⟩:=hrel
    have HBr:=Hm hb
    clear hb
    by_cases hltj:j < n
    ·have hjf:j < fb.length:=by rw[HE.o.1];exact hltj
     have hjb:j < cbl.length:=by rw[HE.o.2.1];exact hltj
     have hjc:j < cert.length:=by rw[HE.o.2.2];exact hltj
     have hT:=sk_bel HT2.o HBr.o
     have hV:=sk_bel HV2.o HBr.o
     have hU:=sk_bel HU2.o HBr.o
     rw[←HE.o.2.2] at hT
     rw[←HE.o.1] at hV
     rw[←HE.o.2.1] at hU
     obtain⟨bt,ot,ct',v1,e,-,hsk,z0⟩:=sk_pairs hT j hjc
     rw[HE.o.2.2] at e
     simp only[Value.slice.injEq,Option.some.injEq,Addr.mk.injEq,and_true,true_and] at e
     obtain⟨⟨rfl,rfl⟩,rfl⟩:=e
     obtain⟨bf,of_,cf,v2,e,-,-,hskf,x0,x1,x2,x3,x4⟩:=sk_block hV j hjf
     rw[HE.o.1] at e
     simp only[Value.slice.injEq] at e
     obtain⟨rfl,-,rfl⟩:=e
     obtain⟨bc,oc,cc,v3,e,-,-,hskc,y0,y1,y2,y3,y4⟩:=sk_block hU j hjb
     rw[HE.o.2.1] at e
     simp only[Value.slice.injEq] at e
     obtain⟨rfl,-,rfl⟩:=e
     obtain⟨⟨S1,S2,f1,hruns,hmv,hlast,hnext⟩,hfin⟩:=HH.o.blocks j hjf hjb hjc
     have HNx:=Hm hnext
     have hfine:SFine (·∈cert[j]):=λp hp=>by
      have:=HH.o.fits _ (List.getElem_mem hjc) p hp
      have:=HBd.o
      dsimp only at *
      omega
     have hyl:=(HH.o.code.blocks _ (List.getElem_mem hjb)).len
     have h08:(0:Int)≤cr∧(cr:Int)≤8:=by have:=HBd.o;omega
     have HSF2:Hd (SFine S2):=⟨by
      obtain⟨k1,k2⟩:=runs_fine h08.1 h08.2 hruns hfine (HH.o.moves _ (List.getElem_mem hjf))
      have:=movesS_fine f1 S1 k2 k1
      rw[hmv] at this
      exact this⟩
     have HBk:=Hm (λ(wx:World) (hb:Bel wr wx)=>block_ok fb[j] cbl[j] cr h08.1 h08.2 _ S1 S2 hfine f1 (HH.o.moves _ (List.getElem_mem hjf)) hruns hmv hfin hlast (by omega) _ _ _ v2 v3 v1 wx (sk_bel hskf hb) (sk_bel hskc hb) ⟨_,sk_bel hsk hb,HH.o.rise _ (List.getElem_mem hjc),λp=>Iff.rfl⟩)
     obtain⟨A1,c1,rfl,-,-⟩:=sk_form hsk
     obtain⟨A2,c2,rfl,-,-⟩:=sk_form hskf
     obtain⟨A3,c3,rfl,-,-⟩:=sk_form hskc
     clear hT hV hU hsk hskf hskc hruns hmv hlast hnext hfin hfine hyl
     have k0:=bHeap HBr.o K0.o
     have k1:=bHeap HBr.o K1.o
     have a2:wr.cell? ⟨q,2,none⟩=some (.slice (some ⟨bf,of_,none⟩) n ca):=hcell k0 2
     have b1:wr.cell? ⟨q+1,1,none⟩=some (.int .i64 cr):=hcell k1 1
     have b3:wr.cell? ⟨q+1,3,none⟩=some (.slice (some ⟨bc,oc,none⟩) n cb):=hcell k1 3
     have hq0:=hlt k0
     have hq1:=hlt k1
     clear k0 k1
     generalize fb[j]=x at *
     generalize cbl[j]=y at *
     generalize cert[j]=cj at *
     go_wp2_with fail
     refine rgn [.rd 0,.rd 1,.rd 2,.rd 3,.rd 4,.rd 5,.rd 6,.rd 7,.rd 8,.rd 9,.rd 10,.rd 11,.rd 12,.rd 13,.rd 14,.rd 15,.hv 16 [],.rd 17] (n:=135) rfl ?_
     iterate 16 (refine line_rd rfl (λK hK=>?_);go_simp;refine hK _ ?_;clear hK K)
     refine line_hv rfl ?_
     go_wp2_with fail
     refine(HBk.o _ (bD (bR wr))).mono ?_
     rintro e w5 ⟨p,rfl,hp5,hb5',lv5,fv5,hps5⟩
     have hb5:Bel wr w5:=bU hb5'
     have HB5:=Hm (bT HBr.o hb5)
     have HPs:=Hm hps5
     have c3:=hps5.c3
     have hp5':=hps5.lt
     have HTT:=Hm hb5
     clear hb5 hb5' hps5 hp5 y0 y1 y2 y3 y4 x0 b1 b3 z0
     go_wp2_with fail
     refine⟨?_,?_⟩
     ·exact trivial
     iterate 1 (refine line_rd rfl (λK hK=>?_);go_simp;refine hK _ ?_;clear hK K)
     unfold Line
     have k0:=bHeap HB5.o K0.o
     replace a2:w5.cell? ⟨q,2,none⟩=some (.slice (some ⟨bf,of_,none⟩) n ca):=hcell k0 2
     replace hq0:=hlt k0
     replace x1:=bCell HTT.o x1
     replace x2:=bCell HTT.o x2
     replace x3:=bCell HTT.o x3
     replace x4:=bCell HTT.o x4
     have hbf:=World.block_lt_of_cell? w5 _ x1
     clear k0 hq1
     have HN5:=Hm (λ(wx:World)=>next_any x.fin.kind x.fin.a x.fin.to_ x.fin.else_ wx)
     go_wp2_with fail
     refine(HN5.o _).mono ?_
     rintro e w6 ⟨v6,rfl,A6,c6,rfl,hb6,hi6,-⟩
     have HB6:=Hm (bT HB5.o hb6)
     have HPs6:=Hm (HPs.o.bel hb6)
     have HI6:=Hm hi6
     clear hb6 hi6 HPs HN5 c3 hp5' x1 x2 x3 x4 hbf a2 hq0
     have HLn:Hd ((nextL x.fin.kind x.fin.to_ x.fin.else_).length≤2):=⟨by unfold nextL;split<;>(try split)<;>(try split)<;>simp⟩
     generalize nextL x.fin.kind x.fin.to_ x.fin.else_=nl at *
     have hln:=HLn.o
     go_wp2_with fail
     obtain⟨wq,hwq⟩:∃ wq,wq=w6:=⟨_,rfl⟩
     rw[←hwq] at HB6 HPs6 HI6⊢
     clear hwq w6
     go_loopw [109] (λi wr=>∃ k:Nat,k≤nl.length∧i=.int .i64 k∧Bel wq wr) (λi _=>nl.length-(intOf i).toNat)
     case atStart=>exact⟨0,Nat.zero_le _,rfl,bR _⟩
     case round =>
      obtain⟨k,hk,rfl,hb⟩:=hrel
      have HBk:=Hm hb
      clear hb
      by_cases hltk:k < nl.length
      ·obtain⟨b1,o1,rfl,z1⟩:=ints_get (show Ints _ A6 nl from HI6.o.below HBk.o) k hltk
       obtain⟨n0,n1,hn2⟩:=HNx.o nl[k] (List.getElem_mem hltk)
       obtain⟨m,hm⟩:∃ m:Nat,nl[k]=(m:Int):=⟨nl[k].toNat,by omega⟩
       rw[hm] at z1 n0 n1 hn2
       rw[HE.o.2.2] at n1
       have hmn:m < n:=by omega
       have hmc:m < cert.length:=by rw[HE.o.2.2];exact hmn
       replace hn2:∀ p∈cert[m],S2 p:=hn2 hmc
       have hT:=sk_bel HT2.o (bT HB6.o HBk.o)
       rw[←HE.o.2.2] at hT
       obtain⟨bt,ot,ct',v7,e,-,hsk,z0⟩:=sk_pairs hT m hmc
       rw[HE.o.2.2] at e
       simp only[Value.slice.injEq,Option.some.injEq,Addr.mk.injEq,and_true,true_and] at e
       obtain⟨⟨rfl,rfl⟩,rfl⟩:=e
       have hP:=HPs6.o.bel HBk.o
       have c0:=hP.c0
       have hpl:=hP.lt
       have HWi:=Hm (λ(wx:World) (hb:Bel _ wx)=>within_set (sk_bel hsk hb) (hP.rep.stay (Stays.below hb)) HSF2.o hn2)
       obtain⟨A7,c7,rfl,-,-⟩:=sk_form hsk
       obtain⟨A8,n8,c8,rfl⟩:=hP.rep.form
       clear hT hsk hP hn2 n0 n1
       generalize cert[m]=cm at *
       go_wp2_with fail
       refine rgn [.rd 0,.rd 1,.rd 2,.rd 3,.rd 4,.rd 5,.rd 6,.rd 7,.hv 8 [],.rd 9] (n:=135) rfl ?_
       iterate 8 (refine line_rd rfl (λK hK=>?_);go_simp;refine hK _ ?_;clear hK K)
       refine line_hv rfl ?_
       go_wp2_with fail
       refine(HWi.o _ (bD (bR _))).mono ?_
       rintro e w8 ⟨hb8,rfl⟩
       have HB8:=Hm (bT HBk.o (bU hb8))
       clear hb8 c0 hpl z0 z1
       go_wp2_with fail
       refine⟨?_,?_⟩
       ·exact trivial
       iterate 1 (refine line_rd rfl (λK hK=>?_);go_simp;refine hK _ ?_;clear hK K)
       unfold Line
       go_wp2_with fail
       go_roundw
       case rel=>exact⟨k+1,by omega,by go_num,HB8.o⟩
       case measure=>simp[intOf];omega
      ·have HBe:=Hm (bT HB6.o HBk.o)
       go_wp2_with fail
       go_roundw
       case rel=>exact⟨j+1,by omega,by go_num,HBe.o⟩
       case measure=>simp[intOf];omega
    ·have HBe:=Hm (bT HB2.o HBr.o)
     have k2:=bHeap HBr.o K2.o
     have r0:wr.cell? ⟨q+1+1,0,none⟩=some (.int .i64 0):=hcell k2 0
     have r1:wr.cell? ⟨q+1+1,1,none⟩=some (.int .i64 0):=hcell k2 1
     have r2:wr.cell? ⟨q+1+1,2,none⟩=some (.int .i64 0):=hcell k2 2
     obtain⟨f0,f1,f2⟩:=fF3 k2
     have hq2:=hlt k2
     clear k2
     go_wp2
     refine bodyPost_ret (v:=.agg #[.int .i64 0,.int .i64 0,.int .i64 0]) (by simp[results,Tryz.results107,go_sem,r0,r1,r2]) rfl ⟨rfl,bC (bC (bC HBe.o (by have:=HQ.o;omega) _ _) (by have:=HQ.o;omega) _ _) (by have:=HQ.o;omega) _ _⟩
end Go.Proofs.YtjkgligohegaeaaGreatDoor
namespace Go.Proofs
open Go.Shelf
def Tryz.laysNm225_ren:Go.Shelf.Ren:=⟨fun|25=>121|31=>148|32=>149|37=>178|n=>n,fun|22=>29|3=>3|4=>4|40=>121|0=>0|n=>n,fun|n=>n⟩
theorem Tryz.laysNm225:Go.Proofs.Lays2.n25 Tryz.prog Tryz.laysNm225_ren:={
 mixed:=by kernel_rfl
 f25:=Tryz.func121.trans (congrArg some (by kernel_rfl))
 f31:=Tryz.func148.trans (congrArg some (by kernel_rfl))
 f32:=Tryz.func149.trans (congrArg some (by kernel_rfl))
 f37:=Tryz.func178.trans (congrArg some (by kernel_rfl))
 t0:=Tryz.underlying0
 a0:=Tryz.isAgg0
 z0:=Tryz.sizeOf0
 v0:=Tryz.zeroValue0
 t3:=Tryz.underlying3
 a3:=Tryz.isAgg3
 z3:=Tryz.sizeOf3
 v3:=Tryz.zeroValue3
 t4:=Tryz.underlying4
 a4:=Tryz.isAgg4
 z4:=Tryz.sizeOf4
 v4:=Tryz.zeroValue4
 t22:=Tryz.underlying29
 a22:=Tryz.isAgg29
 z22:=Tryz.sizeOf29
 v22:=Tryz.zeroValue29
 t40:=Tryz.underlying121
 a40:=Tryz.isAgg121
 z40:=Tryz.sizeOf121
 v40:=Tryz.zeroValue121 }
open Go.RowKit Go.Lib in
theorem Tryz.slices_BinarySearch_int (b off n c:Nat) (zs:List Int) (x:Int) (w:World) (hz:n≤zs.length) (hbig:n < 4611686018427387904) (hc:∀ j,j < zs.length→w.cell? ⟨b,off+j,none⟩=some (.int .i64 (zs.getD j 0))) (hs:(zs.take n).Pairwise (·≤·)) :
  Calls Tryz.prog 121 #[.slice (some ⟨b,off,none⟩) n c,.int .i64 x] w λe w'=>e=.returned (.tuple #[.int .i64 ((zs.take n).countP (· < x):Nat),.bool ((zs.take n).contains x)])∧∃ q,w'=w.drewN q:=Any.slices_BinarySearch_int Tryz.laysNm225 b off n c zs x w hz hbig hc hs
open Go.RowKit Go.Lib in
theorem Tryz.slices_BinarySearch_int_empty (a:Option Addr) (c:Nat) (x:Int) (w:World) :
  Calls Tryz.prog 121 #[.slice a 0 c,.int .i64 x] w λe w'=>e=.returned (.tuple #[.int .i64 0,.bool false])∧w'=w:=Any.slices_BinarySearch_int_empty Tryz.laysNm225 a c x w
def Tryz.laysSlE041_f145_ren:Go.Shelf.Ren:=⟨fun|41=>145|n=>n,fun|22=>29|23=>3|4=>4|n=>n,fun|n=>n⟩
theorem Tryz.laysSlE041_f145:Go.Proofs.SlLaysE0.n41 Tryz.prog Tryz.laysSlE041_f145_ren:={
 mixed:=by kernel_rfl
 f41:=⟨Tryz.f145.name,by decide,Tryz.func145.trans (congrArg some (by kernel_rfl))⟩
 t4:=Tryz.underlying4
 a4:=Tryz.isAgg4
 z4:=Tryz.sizeOf4
 v4:=Tryz.zeroValue4
 t22:=Tryz.underlying29
 a22:=Tryz.isAgg29
 z22:=Tryz.sizeOf29
 v22:=Tryz.zeroValue29 }
open Go.RowKit Go.Lib in
theorem Tryz.slices_Clone_nil_f145 (n c:Nat) (w:World) :
  Calls Tryz.prog 145 #[.slice none n c] w λe w'=>e=.returned (.slice none 0 0)∧w'=w:=AnyE.slices_Clone_nil Tryz.laysSlE041_f145 n c w
def Tryz.laysSlE041_f77_ren:Go.Shelf.Ren:=⟨fun|41=>77|n=>n,fun|22=>38|23=>5|4=>4|n=>n,fun|n=>n⟩
theorem Tryz.laysSlE041_f77:Go.Proofs.SlLaysE0.n41 Tryz.prog Tryz.laysSlE041_f77_ren:={
 mixed:=by kernel_rfl
 f41:=⟨Tryz.f77.name,by decide,Tryz.func77.trans (congrArg some (by kernel_rfl))⟩
 t4:=Tryz.underlying4
 a4:=Tryz.isAgg4
 z4:=Tryz.sizeOf4
 v4:=Tryz.zeroValue4
 t22:=Tryz.underlying38
 a22:=Tryz.isAgg38
 z22:=Tryz.sizeOf38
 v22:=Tryz.zeroValue38 }
open Go.RowKit Go.Lib in
theorem Tryz.slices_Clone_nil_f77 (n c:Nat) (w:World) :
  Calls Tryz.prog 77 #[.slice none n c] w λe w'=>e=.returned (.slice none 0 0)∧w'=w:=AnyE.slices_Clone_nil Tryz.laysSlE041_f77 n c w
end Go.Proofs
