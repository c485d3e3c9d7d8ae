/- Lemmas of the row. -/
import Derived.Test.YtjkgligohegaeaaGreatDoorN27
set_option linter.all false
set_option maxRecDepth 20000
set_option maxHeartbeats 12800000
namespace Go.Proofs.YtjkgligohegaeaaGreatDoor
open Go.RowKit
theorem func_plain {f:Func} (h:FuncOk f):(∀ b∈f.blocks,∀ i∈b.ins,InsPlain i)∧∀ b∈f.blocks,∃ v n,EndOk v n b.fin :=
 ⟨λb hb i hi=>mins_plain (s:=0) (.inr ((h.blocks b hb).ins i hi)),λb hb=>⟨_,_,(h.blocks b hb).fin⟩⟩
def RFuncPost (w:World) (f:Func) (e:Ending) (w':World):Prop :=
 Bel w w'∧∃ v ok,e=.returned (.tuple #[.agg #[.int .i64 f.params,.int .i64 f.vregs,v],.int .i64 0])∧Kd.SK kBlock w' ok f.blocks v∧∀ b,ok b→w.heap.size≤b
theorem readFunc_any (f:Func) (h:FuncOk f) (hf:∀ b∈f.blocks,BlockFine b) (A:Option Addr) (ca:Nat) (w:World) (hA:Bytes w A (encFunc f)) (hl:(encFunc f).length≤65536) :
  Calls Tryz.prog 130 #[.slice A (encFunc f).length ca] w (RFuncPost w f):=by
 have HF:=Hm (And.intro h hf)
 have HNew:=Hm (λ(w':World) (hb:Bel w w')=>new_rd A ca (encFunc f) w' (hA.below hb) (by omega))
 obtain⟨n,hn⟩:∃ n,(encFunc f).length=n:=⟨_,rfl⟩
 have hp0:=h.p0;have hp4:=h.p4;have hpv:=h.pv;have hv32:=h.v32
 obtain⟨params,vregs,blocks⟩:=f
 simp only at *
 obtain⟨params,rfl⟩:=Int.eq_ofNat_of_zero_le hp0
 obtain⟨vregs,rfl⟩:=Int.eq_ofNat_of_zero_le (show 0≤vregs by omega)
 have henc:encFunc ⟨(params:Int),(vregs:Int),blocks⟩=leb params++(leb vregs++(encBlocks blocks++[])):=by simp[encFunc,flatL]
 rw[hn] at hl HNew⊢
 rw[henc] at hn HNew
 simp only[List.length_append] at hn
 have HN:=Hm hn
 clear h hf hA hn henc
 go_enter Tryz.func130,Tryz.ntmps130
 go_wp2_with fail
 refine(HNew.o _ (bA (bR _) _)).mono ?_
 rintro e w1 ⟨hb1,p,rfl,hp,hrd⟩
 have HRd:=Hm hrd
 have hq0:w1.heap[w.heap.size]?=some (.cells ([.int .i64 0,.int .i64 0,.slice none 0 0]:List Value).toArray 99 (0,0)):=bHeap hb1 (heap_new _ _)
 have hqp:w.heap.size < p:=by simp at hp;omega
 have HB1:=Hm (bUA hb1)
 have HQ:=Hm hq0
 clear hb1 hrd hp hq0
 go_wp2_with fail
 refine(below_leb p params _ 4096 w1 HRd.o (by omega) (by omega) (by have:=HN.o;simp only[List.length_append];omega)).mono ?_
 rintro e w2 ⟨rfl,hs⟩
 have HB2:=Hm (bS HB1.o hs (by omega))
 have HQ2:=Hm ((hs.grown.block w.heap.size (Array.getElem?_eq_some_iff.1 HQ.o).1 (by simp;omega)).trans HQ.o)
 have HRd2:=Hm hs.rd
 clear hs HQ HRd HB1
 go_wp2_with fail
 refine(below_leb p vregs _ 4096 w2 HRd2.o (by omega) (by omega) (by have:=HN.o;simp only[List.length_append];omega)).mono ?_
 rintro e w3 ⟨rfl,hs⟩
 have HB3:=Hm (bS HB2.o hs (by omega))
 have HQ3:=Hm ((hs.grown.block w.heap.size (Array.getElem?_eq_some_iff.1 HQ2.o).1 (by simp;omega)).trans HQ2.o)
 have HRd3:=Hm hs.rd
 have hpz:p < w3.heap.size:=hs.rd.lt
 clear hs HQ2 HRd2 HB2
 obtain⟨bi,hbi⟩:∃ bi,bi=w3.heap.size:=⟨_,rfl⟩
 obtain⟨X,hX⟩:∃ X,X=w3.alloc (.cells #[.int .i64 params,.int .i64 vregs,.slice none 0 0] 99):=⟨_,rfl⟩
 have HB5:Hd (Bel w X):=⟨by rw[hX];exact bA HB3.o _⟩
 have HQ5:Hd (X.heap[w.heap.size]?=some (.cells ([.int .i64 0,.int .i64 0,.slice none 0 0]:List Value).toArray 99 (0,0))):=⟨by rw[hX];exact bHeap (bA (bR _) _) HQ3.o⟩
 have HV5:Hd (X.heap[bi]?=some (.cells ([.int .i64 params,.int .i64 vregs,.slice none 0 0]:List Value).toArray 99 (0,0))):=⟨by rw[hX,hbi];exact heap_new _ _⟩
 have HRd5:Hd (RdAt X p (encBlocks blocks++[]) 0):=⟨by rw[hX];exact HRd3.o.below (bA (bR _) _)⟩
 have hbx:bi < X.heap.size:=by rw[hX,hbi];simp
 have hpb:p < bi:=by omega
 go_wp2_with fail
 rw[←hX]
 rw[←hbi]
 clear hX hbi HB3 HQ3 HRd3
 refine(rblocks_any p [] blocks 32 (by omega) (λb hb=>(HF.o.1.blocks b hb).len) HF.o.2 (func_plain HF.o.1).1 (func_plain HF.o.1).2 HF.o.1.n16 X HRd5.o (by have:=HN.o;simp only[List.length_append];omega)).mono ?_
 rintro e w6 ⟨hs,v,ok,rfl,hk,hok⟩
 have HB6:=Hm (bS HB5.o hs (by omega))
 have HQ6:=Hm ((hs.grown.block w.heap.size (Array.getElem?_eq_some_iff.1 HQ5.o).1 (by simp;omega)).trans HQ5.o)
 have hv6:=(hs.grown.block bi hbx (by simp;omega)).trans HV5.o
 have HV6:=Hm hv6
 have HRd6:=Hm hs.rd
 have HK:=Hm (hk.sk)
 have HOk:Hd (∀ b,(ok b∨some b=v.ownBlock)→X.heap.size≤b):=⟨by
  rintro b (hb|hb)
  ·exact hok b hb
  ·exact(hk.lt_own b hb.symm).1⟩
 obtain⟨A6,c6,rfl,-,-,-⟩:=hk.form
 have v3:w6.cell? ⟨bi,2,none⟩=some (.slice none 0 0):=by rw[cell_at hv6];rfl
 have f3:=free_at hv6 2
 clear hs hk hok hv6 HB5 HQ5 HV5 HRd5
 go_wp2_with fail
 obtain⟨Y,hY⟩:∃ Y,Y=w6.setCell ⟨bi,2,none⟩ (.slice A6 blocks.length c6):=⟨_,rfl⟩
 have hbw:w.heap.size≤bi:=by omega
 have HB7:Hd (Bel w Y):=⟨by rw[hY];exact bC HB6.o hbw _ _⟩
 have HQ7:Hd (Y.heap[w.heap.size]?=some (.cells ([.int .i64 0,.int .i64 0,.slice none 0 0]:List Value).toArray 99 (0,0))):=⟨by rw[hY,heap_setCell_other w6 ⟨bi,2,none⟩ w.heap.size _ (by simp only;omega)];exact HQ6.o⟩
 have HV7:Hd (Y.heap[bi]?=some (.cells ([.int .i64 params,.int .i64 vregs,.slice A6 blocks.length c6]:List Value).toArray 99 (0,0))):=⟨by rw[hY];simpa using set_at HV6.o 2 (.slice A6 blocks.length c6)⟩
 have HRd7:Hd (RdAt Y p [] 0):=⟨by rw[hY];exact HRd6.o.set hpb _ _⟩
 have HK7:Hd (Kd.SK kBlock Y (λb=>ok b∨some b=(Value.slice A6 blocks.length c6).ownBlock) blocks (.slice A6 blocks.length c6)):=⟨by
  rw[hY]
  exact HK.o.stay (Stays.grown (grownBy_cell w6 bi 2 _) (λb hb e=>by have:=HOk.o b hb;simp at e;omega))⟩
 rw[←hY]
 clear hY HB6 HQ6 HV6 HRd6 HK v3 f3
 refine(end_rd p [] 0 Y HRd7.o).mono ?_
 rintro e w8 ⟨rfl,hs⟩
 simp only[ended,if_true] at hs⊢
 have HB8:=Hm (bS HB7.o hs (by omega))
 have hbY:bi < Y.heap.size:=(Array.getElem?_eq_some_iff.1 HV7.o).1
 have hv8:=(hs.grown.block bi hbY (by simp;omega)).trans HV7.o
 have HQ8:=Hm ((hs.grown.block w.heap.size (Array.getElem?_eq_some_iff.1 HQ7.o).1 (by simp;omega)).trans HQ7.o)
 have HV8:=Hm hv8
 have HK8:=Hm (HK7.o.stay (Stays.grown hs.grown (λb hb e=>by have:=HOk.o b hb;simp at e;omega)))
 obtain⟨u0,u1,u3⟩:=cC3 hv8
 have hfld:=run_fault
 clear hs hv8 HB7 HQ7 HV7 HRd7 HK7
 go_wp2_with fail
 refine(check_ok ⟨params,vregs,blocks⟩ HF.o.1 _ _ w8 HK8.o).mono ?_
 rintro e w9 ⟨rfl,hb9⟩
 have HB9:=Hm (bT HB8.o hb9)
 have hq9:=bHeap hb9 HQ8.o
 have hv9:=bHeap hb9 HV8.o
 have HK9:=Hm (sk_bel HK8.o hb9)
 obtain⟨v0,v1,v3⟩:=cC3 hv9
 obtain⟨z0,z1,z3⟩:=cC3 hq9
 obtain⟨g0,g1,g2⟩:=fF3 hq9
 have HQ9:=Hm (set_at (set_at (set_at hq9 0 (.int .i64 params)) 1 (.int .i64 vregs)) 2 (.slice A6 blocks.length c6))
 clear hb9 HB8 HQ8 HV8 HK8 hq9 hv9
 clear u0 u1 u3
 go_wp2
 obtain⟨y0,y1,y3⟩:=cC3 HQ9.o
 refine bodyPost_ret (v:=.tuple #[.agg #[.int .i64 params,.int .i64 vregs,.slice A6 blocks.length c6],.int .i64 0]) (by simp[results,Tryz.results130,go_sem,y0,y1,y3]) rfl ⟨?_,_,_,rfl,?_,λb hb=>Nat.le_trans (by omega) (HOk.o b hb)⟩
 ·exact bC (bC (bC HB9.o (Nat.le_refl _) _ _) (Nat.le_refl _) _ _) (Nat.le_refl _) _ _
 ·have hst:∀ (W:World) (k:Nat) (u:Value),Kd.SK kBlock W (λb=>ok b∨some b=(Value.slice A6 blocks.length c6).ownBlock) blocks (.slice A6 blocks.length c6)→Kd.SK kBlock (W.setCell ⟨w.heap.size,k,none⟩ u) (λb=>ok b∨some b=(Value.slice A6 blocks.length c6).ownBlock) blocks (.slice A6 blocks.length c6) :=
   λW k u hW=>hW.stay (Stays.grown (grownBy_cell W w.heap.size k u) (λb hb e=>by have:=HOk.o b hb;simp at e;omega))
  exact hst _ _ _ (hst _ _ _ (hst _ _ _ HK9.o))
def AskPost (w:World) (job lease regs:Nat) (f:Func) (e:Ending) (w':World):Prop :=
 Bel w w'∧∃ v ok,e=.returned (.tuple #[.agg #[.int .i64 job,.int .u64 lease,.int .i64 regs,.int .i64 f.params,.int .i64 f.vregs,v],.int .i64 0])∧Kd.SK kBlock w' ok f.blocks v∧(∀ b,ok b→w.heap.size≤b)
def askZero:List Value:=[.int .i64 0,.int .u64 0,.int .i64 0,.int .i64 0,.int .i64 0,.slice none 0 0]
theorem takeAsk_any (job lease regs:Nat) (hj:job < 16) (hlease:lease < 18446744073709551616) (hr8:regs≤8) (f:Func) (h:FuncOk f) (hf:∀ b∈f.blocks,BlockFine b)
  (hlen:(askBody job lease regs f).length≤65536) (A:Option Addr) (ca:Nat) (w:World) (hA:Bytes w A (layF 2 (askBody job lease regs f))) (hca:(layF 2 (askBody job lease regs f)).length≤ca) :
  Calls Tryz.prog 104 #[.slice A (layF 2 (askBody job lease regs f)).length ca] w (AskPost w job lease regs f):=by
 have HO:=Hm (λ(w':World) (hb:Bel w w')=>open_any 2 (askBody job lease regs f) hlen A ca w' (hA.below hb) hca)
 have hlc:(encFunc f).length≤65536:=by unfold askBody at hlen;simp only[List.length_append] at hlen;omega
 have e0:askBody job lease regs f=leb job++(leb lease++(leb regs++(encFunc f++[]))):=by simp[askBody]
 have HC:=Hm (λ(w':World) (A:Option Addr) (ca:Nat) (hA:Bytes w' A (encFunc f))=>readFunc_any f h hf A ca w' hA hlc)
 obtain⟨n,hn⟩:∃ n,(layF 2 (askBody job lease regs f)).length=n:=⟨_,rfl⟩
 rw[hn] at HO⊢
 rw[e0] at hlen HO
 simp only[List.length_append] at hlen
 have HN:=Hm hlen
 obtain⟨C,hC⟩:∃ C,encFunc f=C:=⟨_,rfl⟩
 rw[hC] at HC HN HO hlc
 have HLC:=Hm hlc
 clear h hf hA hca hn e0 hlen hC
 have e3:byteV 2=.int .u8 2:=by simp[byteV]
 rw[e3] at HO
 clear e3
 go_enter Tryz.func104,Tryz.ntmps104
 go_wp2_with fail
 refine(HO.o _ (bA (bR _) _)).mono ?_
 rintro e w1 ⟨hb1,p,rfl,hp,hrd⟩
 have HRd:=Hm hrd
 have hq0:w1.heap[w.heap.size]?=some (.cells askZero.toArray 154 (0,0)):=bHeap hb1 (heap_new _ _)
 have hqp:w.heap.size < p:=by simp at hp;omega
 have HB1:=Hm (bUA hb1)
 have HQ:=Hm hq0
 clear hb1 hrd hp hq0
 go_wp2_with fail
 refine(below_leb p job _ 16 w1 HRd.o (by omega) (by omega) (by have:=HN.o;simp only[List.length_append];omega)).mono ?_
 rintro e w2 ⟨rfl,hs⟩
 have HB2:=Hm (bS HB1.o hs (by omega))
 have HQ2:=Hm ((hs.grown.block w.heap.size (Array.getElem?_eq_some_iff.1 HQ.o).1 (by simp;omega)).trans HQ.o)
 have HRd2:=Hm hs.rd
 clear hs HQ HRd HB1
 go_wp2_with fail
 refine(num_lebC p lease _ w2 HRd2.o hlease (by have:=HN.o;simp only[List.length_append];omega)).mono ?_
 rintro e w3 ⟨rfl,hs⟩
 have HB3:=Hm (bS HB2.o hs (by omega))
 have HQ3:=Hm ((hs.grown.block w.heap.size (Array.getElem?_eq_some_iff.1 HQ2.o).1 (by simp;omega)).trans HQ2.o)
 have HRd3:=Hm hs.rd
 clear hs HQ2 HRd2 HB2
 go_wp2_with fail
 refine(below_leb p regs _ 9 w3 HRd3.o (by omega) (by omega) (by have:=HN.o;simp only[List.length_append];omega)).mono ?_
 rintro e w4 ⟨rfl,hs⟩
 have HB4:=Hm (bS HB3.o hs (by omega))
 have HQ4:=Hm ((hs.grown.block w.heap.size (Array.getElem?_eq_some_iff.1 HQ3.o).1 (by simp;omega)).trans HQ3.o)
 have HRd4:=Hm hs.rd
 have hpz:p < w4.heap.size:=hs.rd.lt
 clear hs HQ3 HRd3 HB3
 obtain⟨bi,hbi⟩:∃ bi,bi=w4.heap.size:=⟨_,rfl⟩
 obtain⟨X,hX⟩:∃ X,X=w4.alloc (.cells #[.int .i64 job,.int .u64 lease,.int .i64 regs,.int .i64 0,.int .i64 0,.slice none 0 0] 154):=⟨_,rfl⟩
 have HB6:Hd (Bel w X):=⟨by rw[hX];exact bA HB4.o _⟩
 have HQ6:Hd (X.heap[w.heap.size]?=some (.cells askZero.toArray 154 (0,0))):=⟨by rw[hX];exact bHeap (bA (bR _) _) HQ4.o⟩
 have HV6:Hd (X.heap[bi]?=some (.cells ([.int .i64 job,.int .u64 lease,.int .i64 regs,.int .i64 0,.int .i64 0,.slice none 0 0]:List Value).toArray 154 (0,0))):=⟨by rw[hX,hbi];exact heap_new _ _⟩
 have HRd6:Hd (RdAt X p (C++[]) 0):=⟨by rw[hX];exact HRd4.o.below (bA (bR _) _)⟩
 have hbx:bi < X.heap.size:=by rw[hX,hbi];simp
 have hpb:p < bi:=by omega
 have hpX:p < X.heap.size:=by omega
 go_wp2_with fail
 rw[←hX]
 rw[←hbi]
 clear hX hbi HB4 HQ4 HRd4
 refine(left_rd p (C++[]) 0 X HRd6.o).mono ?_
 rintro e W ⟨rfl,rfl⟩
 rw[List.append_nil] at HRd6⊢
 go_wp2_with fail
 refine(bytes_take p C [] W (by rw[List.append_nil];exact HRd6.o) (by have:=HLC.o;simp only[List.length_append,List.length_nil];omega)).mono ?_
 rintro e w8 ⟨hs,v8,rfl,ho8⟩
 obtain⟨Ac,cc,rfl,hrc,-,hbc,-,-⟩:=own_row ho8
 have HB8:=Hm (bS HB6.o hs (by omega))
 have HQ8:=Hm ((hs.grown.block w.heap.size (Array.getElem?_eq_some_iff.1 HQ6.o).1 (by simp;omega)).trans HQ6.o)
 have HV8:=Hm ((hs.grown.block bi (Array.getElem?_eq_some_iff.1 HV6.o).1 (by simp;omega)).trans HV6.o)
 have HRd8:=Hm hs.rd
 have HBc8:Hd (Bytes w8 Ac C):=⟨hrc⟩
 have HAc:Hd (∀ a,Ac=some a→p < a.block):=⟨λa ha=>by have:=hbc a ha;omega⟩
 clear hs HB6 HQ6 HV6 HRd6 ho8 hrc hbc
 go_wp2_with fail
 refine(end_rd p [] 0 w8 HRd8.o).mono ?_
 rintro e w9 ⟨rfl,hs⟩
 simp only[ended,if_true] at hs⊢
 have HB9:=Hm (bS HB8.o hs (by omega))
 have HQ9:=Hm ((hs.grown.block w.heap.size (Array.getElem?_eq_some_iff.1 HQ8.o).1 (by simp;omega)).trans HQ8.o)
 have HV9:=Hm ((hs.grown.block bi (Array.getElem?_eq_some_iff.1 HV8.o).1 (by simp;omega)).trans HV8.o)
 have HBc9:=Hm (bytes_step (w:=w) HBc8.o HAc.o hs)
 clear hs HB8 HQ8 HV8 HRd8 HBc8
 go_wp2_with fail
 refine(HC.o w9 Ac cc HBc9.o).mono ?_
 unfold RFuncPost
 rintro e w10 ⟨hb,v6,ok,rfl,hsk,hok⟩
 have HB10:=Hm (bT HB9.o hb)
 have hq10:=bHeap hb HQ9.o
 have hv10:=bHeap hb HV9.o
 have HQ10:=Hm hq10
 have HV10:=Hm hv10
 have hbi9:bi < w9.heap.size:=(Array.getElem?_eq_some_iff.1 HV9.o).1
 have HOk:Hd (∀ b,ok b→bi < b):=⟨λb hb=>by have:=hok b hb;omega⟩
 obtain⟨A6,c6,rfl,-,-⟩:=sk_form hsk
 have HK10:=Hm hsk
 obtain⟨v0,v1,v2,v3⟩:=cC4 hv10
 have f3:=free_at hv10 3
 have v4:w10.cell? ⟨bi,4,none⟩=some (.int .i64 0):=by rw[cell_at hv10];rfl
 have f4:=free_at hv10 4
 have v5:w10.cell? ⟨bi,5,none⟩=some (.slice none 0 0):=by rw[cell_at hv10];rfl
 have f5:=free_at hv10 5
 have z0:w10.cell? ⟨w.heap.size,0,none⟩=some (.int .i64 0):=by rw[cell_at hq10];rfl
 have g0:=free_at hq10 0
 have z1:w10.cell? ⟨w.heap.size,1,none⟩=some (.int .u64 0):=by rw[cell_at hq10];rfl
 have g1:=free_at hq10 1
 have z2:w10.cell? ⟨w.heap.size,2,none⟩=some (.int .i64 0):=by rw[cell_at hq10];rfl
 have g2:=free_at hq10 2
 have z3:w10.cell? ⟨w.heap.size,3,none⟩=some (.int .i64 0):=by rw[cell_at hq10];rfl
 have g3:=free_at hq10 3
 have z4:w10.cell? ⟨w.heap.size,4,none⟩=some (.int .i64 0):=by rw[cell_at hq10];rfl
 have g4:=free_at hq10 4
 have z5:w10.cell? ⟨w.heap.size,5,none⟩=some (.slice none 0 0):=by rw[cell_at hq10];rfl
 have g5:=free_at hq10 5
 have hnbq:bi≠w.heap.size:=by omega
 clear hb hsk hok hq10 hv10 HB9 HQ9 HV9 HBc9
 go_wp2_with fail
 have hbw:w.heap.size≤bi:=by omega
 have hq13:((((w10.setCell ⟨bi,3,none⟩ (.int .i64 f.params)).setCell ⟨bi,4,none⟩ (.int .i64 f.vregs)).setCell ⟨bi,5,none⟩ (.slice A6 f.blocks.length c6))).heap[w.heap.size]?=some (.cells askZero.toArray 154 (0,0)):=by
  iterate 3 rw[heap_setCell_other _ ⟨bi,_,none⟩ w.heap.size _ hnbq.symm]
  exact HQ10.o
 have hqf:=set_at (set_at (set_at (set_at (set_at (set_at hq13 0 (.int .i64 job)) 1 (.int .u64 lease)) 2 (.int .i64 regs)) 3 (.int .i64 f.params)) 4 (.int .i64 f.vregs)) 5 (.slice A6 f.blocks.length c6)
 obtain⟨y0,y1,y2,y3,y4,y5⟩:=cC6 hqf
 have hB:=bC (bC (bC (bC (bC (bC (bC (bC (bC HB10.o hbw 3 (.int .i64 f.params)) hbw 4 (.int .i64 f.vregs)) hbw 5 (.slice A6 f.blocks.length c6)) (Nat.le_refl w.heap.size) 0 (.int .i64 job)) (Nat.le_refl w.heap.size) 1 (.int .u64 lease)) (Nat.le_refl w.heap.size) 2 (.int .i64 regs)) (Nat.le_refl w.heap.size) 3 (.int .i64 f.params)) (Nat.le_refl w.heap.size) 4 (.int .i64 f.vregs)) (Nat.le_refl w.heap.size) 5 (.slice A6 f.blocks.length c6)
 have hO:=oC (oC (oC (oC (oC (oC (oC (oC (oC (Only.refl w10 (λb=>b=bi∨b=w.heap.size)) (.inl rfl) 3 (.int .i64 f.params)) (.inl rfl) 4 (.int .i64 f.vregs)) (.inl rfl) 5 (.slice A6 f.blocks.length c6)) (.inr rfl) 0 (.int .i64 job)) (.inr rfl) 1 (.int .u64 lease)) (.inr rfl) 2 (.int .i64 regs)) (.inr rfl) 3 (.int .i64 f.params)) (.inr rfl) 4 (.int .i64 f.vregs)) (.inr rfl) 5 (.slice A6 f.blocks.length c6)
 have hK:=HK10.o.stay (hO.stays (λb hb e=>by have:=HOk.o b hb;omega))
 exact bodyPost_ret (v:=.tuple #[.agg #[.int .i64 job,.int .u64 lease,.int .i64 regs,.int .i64 f.params,.int .i64 f.vregs,.slice A6 f.blocks.length c6],.int .i64 0]) (by simp[results,Tryz.results104,go_sem,y0,y1,y2,y3,y4,y5]) rfl ⟨hB,_,ok,rfl,hK,λb hb=>Nat.le_trans hbw (Nat.le_of_lt (HOk.o b hb))⟩
theorem binI_fine:InsFine binI:=⟨⟨by simp[binI],by simp[binI],by simp[binI],by simp[binI],by simp[binI],by simp[binI],by simp[binI]⟩,by simp[binI],by simp[binI]⟩
theorem bin0_fine:InsFine bin0:=⟨⟨by simp[bin0],by simp[bin0],by simp[bin0],by simp[bin0],by simp[bin0],by simp[bin0],by simp[bin0]⟩,by simp[bin0],by simp[bin0]⟩
theorem filI_fine:InsFine filI:=⟨⟨by simp[filI],by simp[filI],by simp[filI],by simp[filI],by simp[filI],by simp[filI],by simp[filI]⟩,by simp[filI],by simp[filI]⟩
theorem fun0_fine:∀ b∈fun0.blocks,BlockFine b:=by
 intro b hb
 simp[fun0] at hb
 subst hb
 exact⟨by simp,by intro i hi;simp at hi;subst hi;exact binI_fine,⟨by simp[retE],by simp[retE],by simp[retE],by simp[retE],by simp[retE]⟩⟩
theorem code0_fine:∀ b∈code0.blocks,BlockFine b:=by
 intro b hb
 simp[code0] at hb
 subst hb
 exact⟨by simp,λi hi=>by
  simp at hi
  rcases hi with rfl|rfl
  ·exact filI_fine
  ·exact bin0_fine,⟨by simp,by simp,by simp,by simp,by simp⟩⟩
theorem cert0_fine:∀ l∈cert0,PairsFine l:=by
 intro b hb
 simp[cert0] at hb
 subst hb
 exact⟨by simp,by intro i hi;simp at hi;subst hi;simp[PairFine]⟩
theorem code0_ok:CodeOk code0:=by
 refine⟨by simp[code0],by simp[code0],by simp[code0],by simp[code0],by simp[code0],by simp[code0],by simp[code0],by simp[code0],?_⟩
 intro b hb
 simp[code0] at hb
 subst hb
 refine⟨by simp,?_,by simp[EndOk,code0]⟩
 intro i hi
 simp at hi
 rcases hi with rfl|rfl
 ·exact .inl (by simp[filI,code0])
 ·exact .inr ⟨by simp[bin0],by simp[bin0],by simp[bin0],by simp[bin0],by simp[bin0],by simp[bin0],by simp[bin0],by simp[bin0],by simp[bin0],by simp[bin0],by simp[bin0,usesL,code0],by simp[bin0,code0]⟩
theorem code0_ver:Verified fun0 code0 cert0:=by
 refine⟨fun0_ok,code0_ok,rfl,rfl,rfl,?_,?_,?_,?_,?_⟩
 ·intro l hl
  simp[cert0] at hl
  subst hl
  simp
 ·intro l hl p hp
  simp[cert0] at hl
  subst hl
  simp at hp
  subst hp
  simp[fun0,code0]
 ·intro h p hp
  have:p=⟨0,3⟩:=by simpa [cert0] using hp
  subst this
  decide
 ·intro j h1 h2 h3
  have:j=0:=by simp[fun0] at h1;omega
  subst this
  show BlockRuns 3 cert0 ⟨[binI],retE⟩ ⟨[filI,bin0],⟨3,0,0,0⟩⟩ [⟨0,3⟩]
  refine⟨⟨_,_,[],.fill _ _ _ _ _ _ rfl (by simp[filI]) (by simp[filI]) (by simp[filI]) (by simp[filI]) (.mtch _ _ _ _ _ _ _ binI [] (by simp[bin0]) (by simp[bin0]) (by simp[bin0]) rfl rfl rfl rfl rfl (by simp[bin0]) (by simp[binI]) (by simp[binI]) (by simp[bin0]) (by simp[bin0]) ?_ (.nil _ _)),rfl,?_,?_⟩,rfl⟩
  ·intro j h1 h2
   have:j=0∨j=1:=by simp[usesL,binI] at h1;omega
   rcases this with rfl|rfl<;>simp[copiedS,filI,binI,bin0,usesL]
  ·intro _
   simp[stepS,givesB,givenS,bin0,binI,retE]
  ·intro n hn
   cases hn
 ·intro b hb i hi hk
  simp[fun0] at hb
  subst hb
  simp at hi
  subst hi
  simp[binI] at hk
theorem ask0_len (job lease regs:Nat) (hj:job < 16) (hl:lease < 18446744073709551616) (hr:regs≤8):(askBody job lease regs fun0).length≤100:=by
 have h1:=leb_len10 (n:=job) (by omega)
 have h2:=leb_len10 hl
 have h3:=leb_len10 (n:=regs) (by omega)
 have h4:(encFunc fun0).length≤20:=by
  simp[encFunc,fun0,encBlocks,encBlock,encIns,encEnd,flatL,binI,retE,leb_small]
 unfold askBody
 simp only[List.length_append]
 omega
theorem tell0_len (job lease:Nat) (hj:job < 16) (hl:lease < 18446744073709551616):(tellBody job lease code0 cert0).length≤100:=by
 have h1:=leb_len10 (n:=job) (by omega)
 have h2:=leb_len10 hl
 have h4:(encCode code0).length≤20:=by
  simp[encCode,code0,encBlocks,encBlock,encIns,encEnd,flatL,bin0,filI,leb_small]
 have h5:(encCert cert0).length≤20:=by
  simp[encCert,cert0,encPairs,encPair,flatL,leb_small]
 have h3:=leb_len10 (n:=(encCode code0).length) (by omega)
 unfold tellBody
 simp only[List.length_append]
 omega
theorem serve_one (job lease:Nat) (hj:job < 16) (hl:lease < 18446744073709551616) (A:Option Addr) (ca:Nat) (w:World) (ht:TabOk w) (hA:Bytes w A (layF 2 (askBody job lease 3 fun0))) (hca:(layF 2 (askBody job lease 3 fun0)).length≤ca) :
  Calls Tryz.prog 66 #[.slice A (layF 2 (askBody job lease 3 fun0)).length ca,.bool false] w λe w'=>Bel w w'∧∃ V,e=.returned (.tuple #[V,.int .i64 0])∧NewB w w' V (layF 3 (tellBody job lease code0 cert0)):=by
 have hn:=ask0_len job lease 3 hj hl (by omega)
 have hn2:=tell0_len job lease hj hl
 have HO:=Hm (takeAsk_any job lease 3 hj hl (by omega) fun0 fun0_ok fun0_fine (by omega) A ca w hA hca)
 obtain⟨n,hn⟩:∃ n,(layF 2 (askBody job lease 3 fun0)).length=n:=⟨_,rfl⟩
 rw[hn] at HO⊢
 have HT:=Hm ht
 have HL:=Hm (show (tellBody job lease code0 cert0).length≤65536 by omega)
 clear ht hA hca hn hn2
 go_enter Tryz.func66,Tryz.ntmps66
 go_wp2_with fail
 refine HO.o.mono ?_
 unfold AskPost
 rintro e w1 ⟨hb1,v,ok,rfl,hsk,-⟩
 obtain⟨A1,c1,rfl,-,-⟩:=sk_form hsk
 have HB1:=Hm hb1
 have HS:=Hm (sk_lt hsk)
 have hz:w.heap.size≤w1.heap.size:=hb1.size
 clear hsk hb1 HO
 rw[show fun0.params=1 from rfl,show fun0.vregs=2 from rfl]
 go_wp2_with fail
 have hb2:Bel w1 (w1.alloc (.cells #[.int .i64 job,.int .u64 lease,.int .i64 3,.int .i64 1,.int .i64 2,.slice A1 fun0.blocks.length c1] 154)):=bA (bR _) _
 have h0:(w1.alloc (.cells #[.int .i64 job,.int .u64 lease,.int .i64 3,.int .i64 1,.int .i64 2,.slice A1 fun0.blocks.length c1] 154)).heap[w1.heap.size]?=some (.cells #[.int .i64 job,.int .u64 lease,.int .i64 3,.int .i64 1,.int .i64 2,.slice A1 fun0.blocks.length c1] 154 (0,0)):=hnew rfl
 generalize w1.alloc _=X at hb2 h0⊢
 refine(alloc_one _ _ X (HT.o.bel (bT HB1.o hb2)) (sk_bel HS.o hb2) (λb hb=>Nat.lt_of_lt_of_le hb hb2.size)).mono ?_
 rintro e w3 ⟨hb3,V,C,rfl,hV,hC⟩
 have hh:=bHeap hb3 h0
 obtain⟨q0,q1⟩:=cC2 hh
 obtain⟨A3,c3,rfl,-,-⟩:=sk_form hV
 obtain⟨A4,c4,rfl,-,-⟩:=sk_form hC
 have HB3:=Hm (bT (bT HB1.o hb2) hb3)
 have HV:=Hm hV
 have HC:=Hm hC
 have hlt3:w1.heap.size < w3.heap.size:=hlt hh
 clear hV hC hb3 hb2 h0 hh HS
 go_wp2_with fail
 have hb4:Bel w3 (w3.alloc (.cells #[.int .i64 1,.int .i64 3,.int .i64 1,.slice A3 code0.blocks.length c3] 59)):=bA (bR _) _
 generalize w3.alloc _=Y at hb4⊢
 refine(putTell_any job lease hj hl code0 code0_ok code0_fine cert0 (by simp[cert0]) cert0_fine HL.o _ _ _ Y (sk_bel HV.o hb4) (sk_bel HC.o hb4)).mono ?_
 rintro e w5 ⟨hb5,V,rfl,hV⟩
 obtain⟨A5,c5,rfl⟩:∃ A5 c5,V=.slice A5 (layF 3 (tellBody job lease code0 cert0)).length c5:=by
  obtain⟨A5,c5,e,-⟩:=hV
  exact⟨A5,c5,e⟩
 go_wp2_with fail
 exact bodyPost_ret (v:=.tuple #[.slice A5 (layF 3 (tellBody job lease code0 cert0)).length c5,.int .i64 0]) (by simp[results,Tryz.results66,go_sem]) rfl ⟨bT (bT HB3.o hb4) hb5,_,rfl,hV.base (bT HB3.o hb4)⟩
section
variable {w wp w':World} {ow:Nat→Nat} {x:Nat} {st:FSt} {h:Hds} {lt:List (List (List UInt8))}
theorem sent_at (f:Farm w ow x st h lt) (i:Nat) (hi:i < h.bs.length) (hb:Bel w wp) {v:Value} {body:List UInt8} (ho:NewB w wp v body)
  (hs:Bx.Step wp w' h.bs[i].2 st.box (h.bxs.getD i []++[v])) (hr:(lt.getD i []).length < st.box):Turn w w' ow ow (λn=>n=10+i)∧Farm w' ow x st { h with bxs:=h.bxs.set i (h.bxs.getD i []++[v]) } (lt.set i (lt.getD i []++[body])):=by
 have fp:=f.bel hb
 obtain⟨b1,b2,b3⟩:=fp.boxes i hi
 have hl0:=f.letters i hi
 have t1:Turn wp w' ow ow (λn=>n=10+i):=⟨(Only.grown (F:=λb=>b=h.bs[i].2) hs.grown (λg e=>by cases e;rfl)).weaken (λb _ e=>by rw[e];exact b3),λ_ _=>rfl,by omega⟩
 have t:Turn w w' ow ow (λn=>n=10+i):=⟨Only.belLeft hb t1.only,λ_ _=>rfl,by omega⟩
 obtain⟨A,c,rfl,hrow,hcap,hfr⟩:=ho
 have hnew:LetterAt wp ow (.slice A body.length c) body:=⟨A,c,rfl,hrow,hcap,λ_ a ha=>f.new _ (hfr a ha)⟩
 refine⟨t,fp.boxTurn i hi t1 _ _ (b1.step hs (by rw[List.length_append,hl0.1];exact hr)) (by rw[List.length_append,List.length_append,hl0.1];rfl) (λj h1 h2=>?_)⟩
 by_cases hj:j < (h.bxs.getD i []).length
 ·rw[List.getElem_append_left hj,List.getElem_append_left (by rw[←hl0.1];exact hj)]
  exact((fp.letters i hi).2 j hj (by rw[←hl0.1];exact hj)).turn t1
 ·have h3:(h.bxs.getD i []++[Value.slice A body.length c]).length=(h.bxs.getD i []).length+1:=by rw[List.length_append];rfl
  have hj2:j=(h.bxs.getD i []).length:=by omega
  rw[List.getElem_append_right (by omega),List.getElem_append_right (by rw[←hl0.1];omega)]
  simp only[hj2,hl0.1,Nat.sub_self,List.getElem_cons_zero]
  exact hnew.turn t1
theorem took_at (f:Farm w ow x st h lt) (i:Nat) (hi:i < h.bs.length) (v0:Value) (vs:List Value) (l0:List UInt8) (rest:List (List UInt8)) (hv:h.bxs.getD i []=v0 :: vs) (hl:lt.getD i []=l0 :: rest)
  (hs:Bx.Step w w' h.bs[i].2 st.box vs):Turn w w' ow ow (λn=>n=10+i)∧Farm w' ow x st { h with bxs:=h.bxs.set i vs } (lt.set i rest)∧LetterAt w' ow v0 l0:=by
 obtain⟨b1,b2,b3⟩:=f.boxes i hi
 have hl0:=f.letters i hi
 have t1:Turn w w' ow ow (λn=>n=10+i):=⟨(Only.grown (F:=λb=>b=h.bs[i].2) hs.grown (λg e=>by cases e;rfl)).weaken (λb _ e=>by rw[e];exact b3),λ_ _=>rfl,by omega⟩
 have h1:∀ j (h1:j < (v0 :: vs).length) (h2:j < (l0 :: rest).length),LetterAt w ow (v0 :: vs)[j] (l0 :: rest)[j]:=by
  have:=hl0.2
  simp only[hv,hl] at this
  exact this
 have hn:vs.length=rest.length:=by have:=hl0.1;rw[hv,hl] at this;simpa using this
 have hfit:=b1.fits
 rw[hv] at hfit
 exact⟨t1,f.boxTurn i hi t1 vs rest (b1.step hs (by rw[List.length_cons] at hfit;omega)) hn (λj a b=>(h1 (j+1) (by simpa using a) (by simpa using b)).turn t1),(h1 0 (by simp) (by simp)).turn t1⟩
theorem up_open {jobs:List Ls.Job} {last:Nat} (u:FarmUp w ow st h jobs last):∃ pt Bt,h.tp=.pointer (some ⟨pt,0,none⟩)∧Ls.TabAt w pt Bt jobs st.t last ∧
  ∀ w' jobs' last',Ls.Kept w w' pt Bt→Ls.TabAt w' pt Bt jobs' st.t last'→jobs'.length=jobs.length→(∀ i (h1:i < jobs.length) (h2:i < jobs'.length),jobs'[i].done=jobs[i].done)→FarmUp w' ow st h jobs' last'∧Turn w w' ow ow (λn=>n=4):=by
 obtain⟨⟨pb,base,ok,kv,vv,pt,Bt,e1,e2,hb,ht,o1,o2,o3,o4,o5,o6⟩,hl,hd⟩:=u
 refine⟨pt,Bt,e2,ht,λw' jobs' last' k ht' hl' hd'=>?_⟩
 have t:Turn w w' ow ow (λn=>n=4):=⟨⟨k.os,k.tape,k.output,k.size,λb hb hn=>k.block b hb (λe=>hn (by rw[e];exact o5)) (λe=>hn (by rw[e];exact o6))⟩,λ_ _=>rfl,by omega⟩
 exact⟨⟨⟨pb,base,ok,kv,vv,pt,Bt,e1,e2,hb.only t.only (by rw[o1];omega) (λg hg=>by rw[o2 g hg];omega) (λg hg=>by rw[o3 g hg];omega) (λb hb=>by rw[o4 b hb];omega),ht',o1,o2,o3,o4,o5,o6⟩,hl'.trans hl,
  λi hi=>by rw[hd' i (by omega) hi];exact hd i (by omega)⟩,t⟩
theorem Farm.now (f:Farm w ow x st h lt) (n:Nat):Turn w (w.setCell ⟨x,8,none⟩ (.int .u64 n)) ow ow (λk=>k=5)∧Farm (w.setCell ⟨x,8,none⟩ (.int .u64 n)) ow x { st with now:=n } h lt:=by
 have t:Turn w (w.setCell ⟨x,8,none⟩ (.int .u64 n)) ow ow (λk=>k=5):=⟨(Only.grown (F:=λb=>b=x) (grownBy_cell w x 8 _) (λg e=>by cases e;rfl)).weaken (λb _ e=>by rw[e];exact f.ox),λ_ _=>rfl,by omega⟩
 refine⟨t,f.turn2 t (by omega) ?_ ⟨rfl,rfl,rfl⟩ ⟨rfl,rfl,rfl,rfl⟩ (f.file.only' t.only (by rw[f.of_];omega) (λh0 a ha=>by rw[f.oA h0 a ha];omega)) f.of_ f.oA (λb hb=>f.new b (by simpa using hb))⟩
 rw[Go.Joins.block_setCell f.head _]
 rfl
end
theorem Turn.trans {w w1 w2:World} {ow ow1 ow2:Nat→Nat} {I J:Nat→Prop} (t:Turn w w1 ow ow1 I) (k:Turn w1 w2 ow1 ow2 J):Turn w w2 ow ow2 (λn=>I n∨J n) :=
 ⟨(t.only.weaken (G:=λb=>I (ow b)∨J (ow b)) (λ_ _ h=>.inl h)).trans k.only (λb hb h=>.inr (by rw[←t.old b hb];exact h)),λb hb=>(k.old b (Nat.lt_of_lt_of_le hb t.only.size)).trans (t.old b hb),λh=>h.elim t.zero k.zero⟩
theorem Turn.coarse {w w':World} {ow ow':Nat→Nat} {I:Nat→Prop} (t:Turn w w' ow ow' I):Turn w w' ow ow' (λn=>n≠0) :=
 ⟨t.only.weaken (λb _ h e=>t.zero (by rw[←e];exact h)),t.old,λh=>h rfl⟩
theorem Turn.any {w w1 w2:World} {ow ow1 ow2:Nat→Nat} (t:Turn w w1 ow ow1 (λn=>n≠0)) (k:Turn w1 w2 ow1 ow2 (λn=>n≠0)):Turn w w2 ow ow2 (λn=>n≠0):=(t.trans k).coarse
def UpEx (w:World) (ow:Nat→Nat) (st:FSt) (h:Hds) (jobs:List Ls.Job) (last:Nat):Prop :=
 ∃ pb base ok kv vv pt Bt,h.bp=.pointer (some ⟨pb,0,none⟩)∧h.tp=.pointer (some ⟨pt,0,none⟩)∧BookAt w pb h.pf base ok (keysOf st.js) (valsOf st.js) kv vv (laid (recsOf st.js)).length∧Ls.TabAt w pt Bt jobs st.t last ∧
  ow pb=3∧(∀ g,kv.ownBlock=some g→ow g=3)∧(∀ g,vv.ownBlock=some g→ow g=3)∧(∀ b,ok b→ow b=0)∧ow pt=4∧ow Bt=4
theorem took {w w1:World} {ow:Nat→Nat} {x:Nat} {st:FSt} {h:Hds} {lt:List (List (List UInt8))} (f:Farm w ow x st h lt) (h0:0 < h.bs.length) (v0:Value) (vs:List Value) (l0:List UInt8) (rest:List (List UInt8)) (hv:h.bxs.getD 0 []=v0 :: vs) (hl:lt.getD 0 []=l0 :: rest)
  (hs:Bx.Step w w1 h.bs[0].2 st.box vs):Turn w w1 ow ow (λn=>n=10)∧Farm w1 ow x st { h with bxs:=h.bxs.set 0 vs } (lt.set 0 rest)∧LetterAt w1 ow v0 l0:=by
 obtain⟨b1,b2,b3⟩:=f.boxes 0 h0
 have hl0:=f.letters 0 h0
 have t1:Turn w w1 ow ow (λn=>n=10+0):=⟨(Only.grown (F:=λb=>b=h.bs[0].2) hs.grown (λg e=>by cases e;rfl)).weaken (λb _ e=>by rw[e];exact b3),λ_ _=>rfl,by omega⟩
 have h1:∀ j (h1:j < (v0 :: vs).length) (h2:j < (l0 :: rest).length),LetterAt w ow (v0 :: vs)[j] (l0 :: rest)[j]:=by
  have:=hl0.2
  simp only[hv,hl] at this
  exact this
 have hn:vs.length=rest.length:=by have:=hl0.1;rw[hv,hl] at this;simpa using this
 have hfit:=b1.fits
 rw[hv] at hfit
 exact⟨t1,f.boxTurn 0 h0 t1 vs rest (b1.step hs (by rw[List.length_cons] at hfit;omega)) hn (λj a b=>(h1 (j+1) (by simpa using a) (by simpa using b)).turn t1),(h1 0 (by simp) (by simp)).turn t1⟩
theorem committed {w w':World} {ow:Nat→Nat} {x:Nat} {st:FSt} {h:Hds} {lt:List (List (List UInt8))} (f:Farm w ow x st h lt) (jobs:List Ls.Job) (last:Nat) (u:FarmUp w ow st h jobs last) (job:Nat) (d:List UInt8) (pb pt Bt base:Nat) (ok:Nat→Prop) (kv vv:Value)
  (e1:h.bp=.pointer (some ⟨pb,0,none⟩)) (e2:h.tp=.pointer (some ⟨pt,0,none⟩)) (hb:BookAt w pb h.pf base ok (keysOf st.js) (valsOf st.js) kv vv (laid (recsOf st.js)).length) (ht:Ls.TabAt w pt Bt jobs st.t last)
  (o1:ow pb=3) (o2:∀ g,kv.ownBlock=some g→ow g=3) (o3:∀ g,vv.ownBlock=some g→ow g=3) (o4:∀ b,ok b→ow b=0) (o5:ow pt=4) (o6:ow Bt=4)
  (hc:CommitPost w pb h.pf base st.room ok (keysOf st.js++[(job:Int)]) (valsOf st.js++[d]) (laid (recsOf st.js)++layF 1 (recB job d)) kv vv w') :
  ∃ ow' h',Turn w w' ow ow' (λn=>n=2∨n=3)∧Farm w' ow' x { st with js:=st.js++[(job,d)] } h' lt∧UpEx w' ow' { st with js:=st.js++[(job,d)] } h' jobs last∧h'.bs=h.bs∧h'.pf=h.pf∧h'.bxs=h.bxs∧h'.tp=h.tp∧h'.bp=h.bp:=by
 obtain⟨hon,ok',kv',vv',A',c',hbk,hfl,wk,wv,hok,hA⟩:=hc
 have hls:laid (recsOf (st.js++[(job,d)]))=laid (recsOf st.js)++layF 1 (recB job d):=by
  unfold recsOf
  rw[List.map_append,laid_append]
  simp[laid]
 have hks:keysOf (st.js++[(job,d)])=keysOf st.js++[(job:Int)]:=by simp[keysOf]
 have hvs:valsOf (st.js++[(job,d)])=valsOf st.js++[d]:=by simp[valsOf]
 have hpf:=hlt f.file.head
 have hpb:=hlt hb.head
 obtain⟨ow',hw⟩:∃ ow':Nat→Nat,ow'=λb=>if b < w.heap.size then ow b else if kv'.ownBlock=some b∨vv'.ownBlock=some b then 3 else 0:=⟨_,rfl⟩
 have hold:∀ b,b < w.heap.size→ow' b=ow b:=λb h=>by rw[hw];simp only[if_pos h]
 have hne:∀ b,w.heap.size≤b→(kv'.ownBlock=some b∨vv'.ownBlock=some b)→ow' b=3:=λb h e=>by rw[hw];simp only[if_neg (Nat.not_lt.2 h),if_pos e]
 have hze:∀ b,w.heap.size≤b→¬(kv'.ownBlock=some b∨vv'.ownBlock=some b)→ow' b=0:=λb h e=>by rw[hw];simp only[if_neg (Nat.not_lt.2 h),if_neg e]
 have t:Turn w w' ow ow' (λn=>n=2∨n=3):=⟨hon.weaken (λb hb' hF=>by
  rcases hF with e|e|e|e
  ·exact .inr (by rw[e];exact o1)
  ·exact .inl (by rw[e];exact f.of_)
  ·exact .inr (o2 b e.symm)
  ·exact .inr (o3 b e.symm)),hold,by omega⟩
 have hkl:∀ g,kv'.ownBlock=some g→g < w'.heap.size:=λg hg=>(hbk.tab.krow.lt g hg).2
 have hvl:∀ g,vv'.ownBlock=some g→g < w'.heap.size:=λg hg=>(hbk.tab.vrow.lt_own g hg).2
 refine⟨ow',{ h with A:=A',c:=c' },t,f.turn2 t (λn hn=>by omega) (t.heap f.head (by rw[f.ox];omega)) ⟨rfl,rfl,rfl⟩ ⟨rfl,rfl,rfl,rfl⟩ (by rw[hls];exact hfl) ((hold _ hpf).trans f.of_) (λ_ a ha=>?_) (λb hb'=>?_),?_,rfl,rfl,rfl,rfl,rfl⟩
 ·obtain⟨a1,a2,a3,a4⟩:=hA a ha
  exact hze _ a1 (λe=>e.elim a3 a4)
 ·refine hze b (Nat.le_trans hon.size hb') (λe=>?_)
  rcases e with e|e
  ·exact absurd (hkl b e) (by omega)
  ·exact absurd (hvl b e) (by omega)
 ·have htl:=ht.lt
  refine⟨pb,base,ok',kv',vv',pt,Bt,e1,e2,by rw[hls,hks,hvs];exact hbk,ht.turn t (by rw[o5];omega) (by rw[o6];omega),(hold _ hpb).trans o1,λg hg=>?_,λg hg=>?_,λb hb'=>?_,(hold _ htl.1).trans o5,(hold _ htl.2).trans o6⟩
  ·by_cases hs:g < w.heap.size
   ·rcases wk with e|e
    ·exact(hold g hs).trans (o2 g (by rw[←e];exact hg))
    ·exact absurd (e g hg) (by omega)
   ·exact hne g (by omega) (.inl hg)
  ·by_cases hs:g < w.heap.size
   ·rcases wv with e|e
    ·exact(hold g hs).trans (o3 g (by rw[←e];exact hg))
    ·exact absurd (e g hg) (by omega)
   ·exact hne g (by omega) (.inr hg)
  ·by_cases hs:b < w.heap.size
   ·rcases hok b hb' with e|e
    ·exact(hold b hs).trans (o4 b e)
    ·omega
   ·exact hze b (by omega) (λe=>e.elim (hbk.okk b hb') (λe=>hbk.tab.vrow.apart b hb' e.symm))
theorem marked {w w':World} {ow:Nat→Nat} {x:Nat} {st:FSt} {h:Hds} {lt:List (List (List UInt8))} (f:Farm w ow x st h lt) (jobs:List Ls.Job) (last:Nat) (u:UpEx w ow st h jobs last) (pt Bt:Nat) (e2:h.tp=.pointer (some ⟨pt,0,none⟩)) (hp:ow pt=4) (hB:ow Bt=4)
  (jobs':List Ls.Job) (last':Nat) (hk:Ls.Kept w w' pt Bt) (ht:Ls.TabAt w' pt Bt jobs' st.t last'):Turn w w' ow ow (λn=>n=4)∧Farm w' ow x st h lt∧UpEx w' ow st h jobs' last':=by
 have t:Turn w w' ow ow (λn=>n=4):=⟨⟨hk.os,hk.tape,hk.output,hk.size,λb hb hF=>hk.block b hb (λe=>hF (by rw[e];exact hp)) (λe=>hF (by rw[e];exact hB))⟩,λ_ _=>rfl,by omega⟩
 refine⟨t,f.turn t (λn e=>by omega) (λb hb=>f.new b (Nat.le_trans hk.size hb)),?_⟩
 obtain⟨pb,base,ok,kv,vv,pt',Bt',e1,e2',hb,ht',o1,o2,o3,o4,o5,o6⟩:=u
 exact⟨pb,base,ok,kv,vv,pt,Bt,e1,e2,hb.only t.only (by rw[o1];omega) (λg hg=>by rw[o2 g hg];omega) (λg hg=>by rw[o3 g hg];omega) (λb hb=>by rw[o4 b hb];omega),ht,o1,o2,o3,o4,hp,hB⟩
theorem up_done {w:World} {ow:Nat→Nat} {st:FSt} {h h0:Hds} {jobs:List Ls.Job} {last:Nat} {w0:World} {ow0:Nat→Nat} {st0:FSt} (u0:FarmUp w0 ow0 st0 h0 jobs last) (job:Nat) (d:List UInt8) (hj:job < jobs.length) (hst:st={ st0 with js:=st0.js++[(job,d)] }) (u:UpEx w ow st h (jobs.set job (jobs[job].ended)) last):FarmUp w ow st h (jobs.set job (jobs[job].ended)) last:=by
 subst hst
 refine⟨u,by rw[List.length_set];exact u0.len,λi hi=>?_⟩
 have hi':i < jobs.length:=by simpa using hi
 rw[List.getElem_set]
 by_cases e:job=i
 ·subst e
  rw[if_pos rfl]
  simp[Ls.Job.ended]
 ·rw[if_neg e,u0.done i hi']
  simp[show ¬i=job from λx=>e x.symm]
def TookPost (w:World) (ow:Nat→Nat) (x:Nat) (st:FSt) (h:Hds) (lt:List (List (List UInt8))) (jobs:List Ls.Job) (last:Nat) (w':World):Prop :=
 ∃ ow' h',Turn w w' ow ow' (λn=>n≠0)∧Farm w' ow' x st h' lt∧FarmUp w' ow' st h' jobs last
theorem FarmUp.boxes {w:World} {ow:Nat→Nat} {st:FSt} {h:Hds} {jobs:List Ls.Job} {last:Nat} (u:FarmUp w ow st h jobs last) (b:List (List Value)):FarmUp w ow st { h with bxs:=b } jobs last:=⟨u.ex,u.len,u.done⟩
theorem judge_in2 (w:World) (ow:Nat→Nat) (x:Nat) (st:FSt) (h:Hds) (lt:List (List (List UInt8))) (f:Farm w ow x st h lt) (jobs:List Ls.Job) (last:Nat) (u:FarmUp w ow st h jobs last) (job lease:Nat) (c:Code) (cert:List (List PairV)) (ht:TellOk st job lease c cert) (hd:job∉st.js.map (·.1))
  (A:Option Addr) (ca:Nat) (vs:List Value) (rest:List (List UInt8)) (hv:h.bxs.getD 0 []=.slice A (letterOf job lease c cert).length ca :: vs) (hl:lt.getD 0 []=letterOf job lease c cert :: rest) (h0:0 < h.bs.length) (w1:World) (hs:Bx.Step w w1 h.bs[0].2 st.box vs) :
  Calls Tryz.prog 67 #[.pointer (some ⟨x,0,none⟩),.slice A (letterOf job lease c cert).length ca] w1 λe w'=>∃ V,e=.returned (.tuple #[.int .i64 job,V,.int .i64 0])∧NewB w w' V (encCode c)∧Turn w w' ow ow (λn=>n≠0)∧Farm w' ow x st { h with bxs:=h.bxs.set 0 vs } (lt.set 0 rest)∧FarmUp w' ow st { h with bxs:=h.bxs.set 0 vs } jobs last:=by
 obtain⟨t1,f1,l1⟩:=took f h0 _ vs _ rest hv hl hs
 have u1:=(u.turn t1 (λn e=>by omega)).boxes (h.bxs.set 0 vs)
 obtain⟨A',c',e,hB,hC,-⟩:=l1
 injection e with e1 e2 e3
 subst e1 e3
 refine(judge_ok w1 ow x st _ _ f1 jobs last u1 job lease c cert ht hd A ca hB hC).mono ?_
 rintro e w2 ⟨V,rfl,hb,hV⟩
 obtain⟨A2,c2,g1,g2,g3,g4⟩:=hV
 exact⟨V,rfl,⟨A2,c2,g1,g2,g3,λa ha=>Nat.le_trans t1.only.size (g4 a ha)⟩,(t1.trans (Turn.bel hb ow)).coarse,f1.bel hb,u1.bel hb⟩
def roomFor (st:FSt) (job:Nat) (d:List UInt8):Nat:=(laid (recsOf st.js)).length+(layF 1 (recB job d)).length
theorem commit_in1 {w2:World} {ow:Nat→Nat} {x:Nat} {st:FSt} {h:Hds} {lt:List (List (List UInt8))} (f:Farm w2 ow x st h lt) {jobs:List Ls.Job} {last:Nat} (u:FarmUp w2 ow st h jobs last) (job:Nat) (hj:job < 16) (d:List UInt8) (hd:job∉st.js.map (·.1)) (hl:(recB job d).length≤65536) (hr:st.room < roomFor st job d) (Ad:Option Addr) (cd:Nat) (hB:Bytes w2 Ad d) (hc:d.length≤cd) (pb0:Nat) (hb0:h.bp=.pointer (some ⟨pb0,0,none⟩)) :
  Calls Tryz.prog 69 #[.pointer (some ⟨pb0,0,none⟩),.int .i64 job,.slice Ad d.length cd] w2 λe w'=>e=.returned (.int .i64 50)∧Bel w2 w':=by
 obtain⟨pb,base,ok,kv,vv,pt,Bt,e1,e2,hb,-⟩:=u.ex
 have hk:(job:Int)∉keysOf st.js:=by
  intro hm
  obtain⟨p,hp,e⟩:=List.mem_map.1 hm
  exact hd (List.mem_map.2 ⟨p,hp,by exact_mod_cast e⟩)
 rw[←hb0,e1]
 exact commit_full pb h.pf base st.room ok _ _ kv vv _ h.A h.c job hj hk d Ad cd w2 hb f.file hB hl hr
theorem commit_in2 {w2:World} {ow:Nat→Nat} {x:Nat} {st:FSt} {h:Hds} {lt:List (List (List UInt8))} (f:Farm w2 ow x st h lt) {jobs:List Ls.Job} {last:Nat} (u:FarmUp w2 ow st h jobs last) (job:Nat) (hj:job < 16) (d:List UInt8) (hd:∀ p∈st.js,p.1 < job) (hf:st.js.length < 1000) (hl:(recB job d).length≤65536) (hr:roomFor st job d≤st.room) (Ad:Option Addr) (cd:Nat) (hB:Bytes w2 Ad d) (hc:d.length≤cd) (hA:∀ a,Ad=some a→ow a.block=0) (pb0:Nat) (hb0:h.bp=.pointer (some ⟨pb0,0,none⟩)) :
  Calls Tryz.prog 69 #[.pointer (some ⟨pb0,0,none⟩),.int .i64 job,.slice Ad d.length cd] w2 λe w'=>e=.returned (.int .i64 0)∧∃ ow' h',Turn w2 w' ow ow' (λn=>n≠0)∧Farm w' ow' x { st with js:=st.js++[(job,d)] } h' lt∧UpEx w' ow' { st with js:=st.js++[(job,d)] } h' jobs last∧h'.tp=h.tp:=by
 obtain⟨pb,base,ok,kv,vv,pt,Bt,e1,e2,hb,ht,o1,o2,o3,o4,o5,o6⟩:=u.ex
 have hk:∀ k∈keysOf st.js,k < (job:Int):=by
  intro k hm
  obtain⟨p,hp,e⟩:=List.mem_map.1 hm
  have:=hd p hp
  omega
 rw[←hb0,e1]
 have HC:=commit_ok pb h.pf base st.room ok _ _ kv vv _ h.A h.c job hj hk d Ad cd w2 hb f.file hB hl hr
  (λe=>by have h1:=f.of_;rw[e,o1] at h1;omega) (λe=>by have h1:=f.of_;rw[o2 _ e] at h1;omega) (λe=>by have h1:=f.of_;rw[o3 _ e] at h1;omega) (λe=>by have h1:=f.of_;rw[o4 _ e] at h1;omega)
  (λa ha=>⟨λe=>by have h1:=f.of_;rw[←e,hA a ha] at h1;omega,λe=>by have h1:=o1;rw[←e,hA a ha] at h1;omega⟩) (by unfold keysOf;rw[List.length_map];exact hf)
 refine HC.mono ?_
 rintro e w' ⟨rfl,hc⟩
 obtain⟨ow',h',t,f',u',-,-,-,g4,-⟩:=committed f jobs last u job d pb pt Bt base ok kv vv e1 e2 hb ht o1 o2 o3 o4 o5 o6 hc
 exact⟨rfl,ow',h',t.coarse,f',u',g4⟩
theorem done_in2 {w0 w3:World} {ow0 ow:Nat→Nat} {x:Nat} {st0:FSt} {h0 h:Hds} {lt:List (List (List UInt8))} {jobs:List Ls.Job} {last:Nat} (u0:FarmUp w0 ow0 st0 h0 jobs last) (job:Nat) (d:List UInt8) (hd:job∉st0.js.map (·.1)) (hj:job < st0.fs.length)
  (f:Farm w3 ow x { st0 with js:=st0.js++[(job,d)] } h lt) (u:UpEx w3 ow { st0 with js:=st0.js++[(job,d)] } h jobs last) :
  Calls Tryz.prog 70 #[h.tp,.int .i64 job] w3 λe w'=>e=.returned (.int .i64 0)∧∃ jobs',Turn w3 w' ow ow (λn=>n≠0)∧Farm w' ow x { st0 with js:=st0.js++[(job,d)] } h lt∧FarmUp w' ow { st0 with js:=st0.js++[(job,d)] } h jobs' last:=by
 have hji:job < jobs.length:=by rw[u0.len];exact hj
 obtain⟨pb,base,ok,kv,vv,pt,Bt,e1,e2,hb,ht,o1,o2,o3,o4,o5,o6⟩:=id u
 rw[e2]
 refine(Ls.done_in pt Bt jobs st0.t last job w3 ht hji).mono ?_
 rintro e w' ⟨hk,hr⟩
 rw[if_neg (by rw[u0.done job hji];simp only[decide_eq_true_eq];exact hd)] at hr
 obtain⟨rfl,ht'⟩:=hr
 obtain⟨t,f',u'⟩:=marked f jobs last u pt Bt e2 o5 o6 _ last hk ht'
 exact⟨rfl,_,t.coarse,f',up_done u0 job d hji rfl u'⟩
theorem take_full (w:World) (ow:Nat→Nat) (x:Nat) (st:FSt) (h:Hds) (lt:List (List (List UInt8))) (f:Farm w ow x st h lt) (hw3:st.workers≤3) (jobs:List Ls.Job) (last:Nat) (u:FarmUp w ow st h jobs last) (job lease:Nat) (c:Code) (cert:List (List PairV)) (ht:TellOk st job lease c cert) (hd:job∉st.js.map (·.1))
  (A:Option Addr) (ca:Nat) (vs:List Value) (rest:List (List UInt8)) (hv:h.bxs.getD 0 []=.slice A (letterOf job lease c cert).length ca :: vs) (hl:lt.getD 0 []=letterOf job lease c cert :: rest) (hlr:(recB job (encCode c)).length≤65536) (hr:st.room < roomFor st job (encCode c)) :
  Calls Tryz.prog 30 #[.pointer (some ⟨x,0,none⟩),.bool false,.slice none 0 0] w λe w'=>e=.returned (.int .i64 50)∧TookPost w ow x st h (lt.set 0 rest) jobs last w':=by
 have h0:0 < h.bs.length:=by have:=f.lens;omega
 have c11:w.cell? ⟨x,11,none⟩=some h.tp:=f.cell 11
 have c12:w.cell? ⟨x,12,none⟩=some h.bv:=f.cell 12
 obtain⟨Ab,cb,e1,e2,e3,e4⟩:=f.row
 rw[e1] at c12
 obtain⟨b,off,rfl,z0⟩:=e3 0 (by simpa using h0)
 simp only[List.getElem_map,Nat.add_zero] at z0
 have HTk:=Hm (Bx.take_some h.bs[0].1 h.bs[0].2 st.box (.slice A (letterOf job lease c cert).length ca) vs w (by have:=(f.boxes 0 h0).1;rw[hv] at this;exact this))
 obtain⟨pb0,pt0,hb0,ht0⟩:∃ pb0 pt0,h.bp=.pointer (some ⟨pb0,0,none⟩)∧h.tp=.pointer (some ⟨pt0,0,none⟩):=by
  obtain⟨pb,base,ok,kv,vv,pt,Bt,e1,e2,-⟩:=u.ex
  exact⟨pb,pt,e1,e2⟩
 rw[ht0] at c11
 have hp:=f.size
 have HJ:=Hm (λ(w1:World) (hs:Bx.Step w w1 h.bs[0].2 st.box vs)=>judge_in2 w ow x st h lt f jobs last u job lease c cert ht hd A ca vs rest hv hl h0 w1 hs)
 have HCo:=Hm (λ(w2:World) (Ad:Option Addr) (cd:Nat) (f2:Farm w2 ow x st { h with bxs:=h.bxs.set 0 vs } (lt.set 0 rest)) (u2:FarmUp w2 ow st { h with bxs:=h.bxs.set 0 vs } jobs last) (hB:Bytes w2 Ad (encCode c)) (hc:(encCode c).length≤cd)=>commit_in1 f2 u2 job ht.j16 (encCode c) hd hlr hr Ad cd hB hc pb0 hb0)
 clear hlr hr
 have hbl:h.bs.length≤4:=by have:=f.lens.1;omega
 have hml:=f.lens
 generalize h.bs[0]=b0 at *
 generalize h.bs.length=nb at *
 have hn0:¬nb=0:=by omega
 generalize (letterOf job lease c cert).length=n at *
 clear f u ht e1 e2 e3 e4 hw3 hv hl hd hml
 go_enter Tryz.func30,Tryz.ntmps30
 go_wp2_with fail
 refine HTk.o.mono ?_
 rintro e w1 ⟨rfl,hs1⟩
 have HJ1:=Hm (HJ.o w1 hs1)
 clear hs1
 go_wp2_with fail
 refine HJ1.o.mono ?_
 rintro e w2 ⟨V,rfl,hV,ht2,hf2,hu2⟩
 obtain⟨A2,c2,rfl,hB2,hc2,hA2⟩:=hV
 have HC2:=Hm (HCo.o w2 A2 c2 hf2 hu2 hB2 hc2)
 have d10:w2.cell? ⟨x,10,none⟩=some h.bp:=hf2.cell 10
 rw[hb0] at d10
 have hp2:=hf2.size
 have HF2:=Hm (And.intro ht2 (And.intro hf2 hu2))
 clear hB2 hc2 hA2 hf2 hu2 ht2
 generalize (encCode c).length=m at *
 go_wp2_with fail
 refine HC2.o.mono ?_
 rintro e w3 ⟨rfl,hb3⟩
 have HB3:=Hm hb3
 clear hb3
 go_wp2_with fail
 go_ret
 exact⟨rfl,ow,_,(HF2.o.1.trans (Turn.bel HB3.o ow)).coarse,HF2.o.2.1.bel HB3.o,HF2.o.2.2.bel HB3.o⟩
theorem take_ok (w:World) (ow:Nat→Nat) (x:Nat) (st:FSt) (h:Hds) (lt:List (List (List UInt8))) (f:Farm w ow x st h lt) (hw3:st.workers≤3) (jobs:List Ls.Job) (last:Nat) (u:FarmUp w ow st h jobs last) (job lease:Nat) (c:Code) (cert:List (List PairV)) (ht:TellOk st job lease c cert) (hd:job∉st.js.map (·.1))
  (A:Option Addr) (ca:Nat) (vs:List Value) (rest:List (List UInt8)) (hv:h.bxs.getD 0 []=.slice A (letterOf job lease c cert).length ca :: vs) (hl:lt.getD 0 []=letterOf job lease c cert :: rest) (hlr:(recB job (encCode c)).length≤65536) (hr:roomFor st job (encCode c)≤st.room) (hup:∀ p∈st.js,p.1 < job) (hfew:st.js.length < 1000) :
  Calls Tryz.prog 30 #[.pointer (some ⟨x,0,none⟩),.bool false,.slice none 0 0] w λe w'=>e=.returned (.int .i64 0)∧∃ jobs',TookPost w ow x { st with js:=st.js++[(job,encCode c)] } h (lt.set 0 rest) jobs' last w':=by
 have h0:0 < h.bs.length:=by have:=f.lens;omega
 have c11:w.cell? ⟨x,11,none⟩=some h.tp:=f.cell 11
 have c12:w.cell? ⟨x,12,none⟩=some h.bv:=f.cell 12
 obtain⟨Ab,cb,e1,e2,e3,e4⟩:=f.row
 rw[e1] at c12
 obtain⟨b,off,rfl,z0⟩:=e3 0 (by simpa using h0)
 simp only[List.getElem_map,Nat.add_zero] at z0
 have HTk:=Hm (Bx.take_some h.bs[0].1 h.bs[0].2 st.box (.slice A (letterOf job lease c cert).length ca) vs w (by have:=(f.boxes 0 h0).1;rw[hv] at this;exact this))
 obtain⟨pb0,pt0,hb0,ht0⟩:∃ pb0 pt0,h.bp=.pointer (some ⟨pb0,0,none⟩)∧h.tp=.pointer (some ⟨pt0,0,none⟩):=by
  obtain⟨pb,base,ok,kv,vv,pt,Bt,e1,e2,-⟩:=u.ex
  exact⟨pb,pt,e1,e2⟩
 rw[ht0] at c11
 have hp:=f.size
 have HJ:=Hm (λ(w1:World) (hs:Bx.Step w w1 h.bs[0].2 st.box vs)=>judge_in2 w ow x st h lt f jobs last u job lease c cert ht hd A ca vs rest hv hl h0 w1 hs)
 have HCo:=Hm (λ(w2:World) (Ad:Option Addr) (cd:Nat) (f2:Farm w2 ow x st { h with bxs:=h.bxs.set 0 vs } (lt.set 0 rest)) (u2:FarmUp w2 ow st { h with bxs:=h.bxs.set 0 vs } jobs last) (hB:Bytes w2 Ad (encCode c)) (hc:(encCode c).length≤cd) (hA:∀ a,Ad=some a→w.heap.size≤a.block)=>commit_in2 f2 u2 job ht.j16 (encCode c) hup hfew hlr hr Ad cd hB hc (λa ha=>f.new _ (hA a ha)) pb0 hb0)
 have HDo:=Hm (λ(w3:World) (ow3:Nat→Nat) (h3:Hds) (f3:Farm w3 ow3 x { st with js:=st.js++[(job,encCode c)] } h3 (lt.set 0 rest)) (u3:UpEx w3 ow3 { st with js:=st.js++[(job,encCode c)] } h3 jobs last)=>done_in2 u job (encCode c) hd ht.jl f3 u3)
 clear hlr hr
 have hbl:h.bs.length≤4:=by have:=f.lens.1;omega
 have hml:=f.lens
 generalize h.bs[0]=b0 at *
 generalize h.bs.length=nb at *
 have hn0:¬nb=0:=by omega
 generalize (letterOf job lease c cert).length=n at *
 clear f u ht e1 e2 e3 e4 hw3 hv hl hd hml
 go_enter Tryz.func30,Tryz.ntmps30
 go_wp2_with fail
 refine HTk.o.mono ?_
 rintro e w1 ⟨rfl,hs1⟩
 have HJ1:=Hm (HJ.o w1 hs1)
 clear hs1
 go_wp2_with fail
 refine HJ1.o.mono ?_
 rintro e w2 ⟨V,rfl,hV,ht2,hf2,hu2⟩
 obtain⟨A2,c2,rfl,hB2,hc2,hA2⟩:=hV
 have HC2:=Hm (HCo.o w2 A2 c2 hf2 hu2 hB2 hc2 hA2)
 have d10:w2.cell? ⟨x,10,none⟩=some h.bp:=hf2.cell 10
 rw[hb0] at d10
 have hp2:=hf2.size
 have HF2:=Hm ht2
 clear hB2 hc2 hA2 hf2 hu2 ht2
 generalize (encCode c).length=m at *
 go_wp2_with fail
 refine HC2.o.mono ?_
 rintro e w3 ⟨rfl,ow3,h3,ht3,hf3,hu3,htp⟩
 have HD3:=Hm (HDo.o w3 ow3 h3 hf3 hu3)
 have d11:w3.cell? ⟨x,11,none⟩=some h3.tp:=hf3.cell 11
 have htp3:h3.tp=.pointer (some ⟨pt0,0,none⟩):=by rw[htp];exact ht0
 rw[htp3] at d11 HD3
 have hp3:=hf3.size
 have HT3:=Hm ht3
 clear hf3 hu3 ht3 htp htp3
 go_wp2_with fail
 refine HD3.o.mono ?_
 rintro e w4 ⟨rfl,jobs',ht4,hf4,hu4⟩
 have HP:=Hm (And.intro ht4 (And.intro hf4 hu4))
 clear ht4 hf4 hu4
 go_wp2_with fail
 go_ret
 exact⟨rfl,jobs',ow3,h3,(HF2.o.any HT3.o).any HP.o.1,HP.o.2.1,HP.o.2.2⟩
def st0:FSt:=⟨3,1,⟨5,1,1⟩,1000,3,[fun0],0,[]⟩
def st1:FSt:={ st0 with now:=1 }
def job1:Ls.Job:={ Ls.Job.zero with lease:=1,deadline:=6,tries:=1 }
def ask0:List UInt8:=layF 2 (askBody 0 1 3 fun0)
theorem tick_one (w:World) (ow:Nat→Nat) (x:Nat) (h:Hds) (f:Farm w ow x st0 h [[],[]]) (u:FarmUp w ow st0 h [Ls.Job.zero] 0) :
  Calls Tryz.prog 28 #[.pointer (some ⟨x,0,none⟩)] w λe w'=>e=.returned (.int .i64 0)∧∃ h',Turn w w' ow ow (λn=>n=4∨n=5∨n=11)∧Farm w' ow x st1 h' [[],[ask0]]∧FarmUp w' ow st1 h' [job1] 1:=by
 have HF:=Hm f
 obtain⟨t1,f1⟩:=f.now 1
 have u1:=u.turn t1 (by omega)
 have HF1:=Hm (And.intro t1 (And.intro f1 u1))
 have c8:w.cell? ⟨x,8,none⟩=some (.int .u64 0):=f.cell 8
 have f8:=hfree f.head 8
 have c11:w.cell? ⟨x,11,none⟩=some h.tp:=f.cell 11
 have c1:w.cell? ⟨x,1,none⟩=some (.int .i64 1):=f.cell 1
 obtain⟨pt,Bt,htp,-,-⟩:=up_open u
 rw[htp] at c11
 have hp:=f.size
 clear f u t1 f1 u1
 go_enter Tryz.func28,Tryz.ntmps28
 go_wp2_with fail
 obtain⟨W,hW⟩:∃ W,W=w.setCell ⟨x,8,none⟩ (.int .u64 1):=⟨_,rfl⟩
 have hz:W.heap.size=w.heap.size:=by rw[hW];simp
 rw[←hW]
 rw[show ((1:Nat):Int)=1 from rfl,←hW] at HF1
 clear hW c8 f8 c11 c1
 have d8:W.cell? ⟨x,8,none⟩=some (.int .u64 1):=HF1.o.2.1.cell 8
 have d11:W.cell? ⟨x,11,none⟩=some (.pointer (some ⟨pt,0,none⟩)):=by rw[←htp];exact HF1.o.2.1.cell 11
 have hpW:x < W.heap.size:=by omega
 refine rgn [.rd 0,.rd 1,.rd 2,.rd 3,.rd 4,.rd 5,.rd 6,.rd 7,.hv 8 []] (n:=90) rfl ?_
 iterate 8 (refine line_rd rfl (λK hK=>?_);go_simp;refine hK _ ?_;clear hK K)
 refine line_hv rfl ?_
 go_wp2_with fail
 have hbd:Bel W W.drew:=bD (bR W)
 generalize W.drew=V at hbd⊢
 have fV:=HF1.o.2.1.bel hbd
 have hsV:=hbd.size
 obtain⟨pt',Bt,htp',ht1,hcl1⟩:=up_open (HF1.o.2.2.bel hbd)
 rw[htp] at htp'
 cases htp'
 refine(Ls.expire_in pt Bt _ _ _ 1 V ht1 (by omega)).mono ?_
 rintro e w2 ⟨hk2,ht2,v2,rfl,-⟩
 have e2:Ls.agedTo [Ls.Job.zero] st0.t 1 1=[Ls.Job.zero]:=rfl
 have hU2:=hcl1 w2 [Ls.Job.zero] 0 hk2 ht2 rfl (λi h1 h2=>rfl)
 have HU2:=Hm hU2.1
 have HT2:=Hm (Only.belLeft hbd hU2.2.only)
 have hk2s:=hk2.size
 have HF2:=Hm (fV.turn hU2.2 (by omega) (λb hb=>HF1.o.2.1.new b (by omega)))
 have hs2:W.heap.size≤w2.heap.size:=by omega
 clear ht1 hcl1 hk2 ht2 hU2 d8 d11 e2 fV hbd hk2s hsV
 go_wp2_with fail
 refine⟨?_,?_⟩
 ·exact trivial
 unfold Line
 have d1:w2.cell? ⟨x,1,none⟩=some (.int .i64 1):=HF2.o.cell 1
 have hp2:x < w2.heap.size:=by omega
 go_wp2_with fail
 refine wp_loop_rounds 2 ?_
 rw[rounds_succ]
 clear d1
 go_wp2_with fail
 have d8:w2.cell? ⟨x,8,none⟩=some (.int .u64 1):=HF2.o.cell 8
 have d11:w2.cell? ⟨x,11,none⟩=some (.pointer (some ⟨pt,0,none⟩)):=by rw[←htp];exact HF2.o.cell 11
 refine rgn [.rd 0,.rd 1,.rd 2,.rd 3,.rd 4,.rd 5,.rd 6,.rd 7,.hv 8 [],.rd 9,.rd 10,.rd 11,.rd 12,.rd 13,.rd 14,.rd 15] (n:=90) rfl ?_
 iterate 8 (refine line_rd rfl (λK hK=>?_);go_simp;refine hK _ ?_;clear hK K)
 refine line_hv rfl ?_
 go_wp2_with fail
 have hbd:Bel w2 w2.drew:=bD (bR w2)
 generalize w2.drew=V at hbd⊢
 have fV:=HF2.o.bel hbd
 have hsV:=hbd.size
 obtain⟨pt',Bt,htp',ht1,hcl1⟩:=up_open (HU2.o.bel hbd)
 rw[htp] at htp'
 cases htp'
 refine(Ls.next_some pt Bt _ _ _ 1 0 V ht1 (by omega) (by omega) rfl (by simp)).mono ?_
 rintro e w3 ⟨rfl,hk3,ht3⟩
 have hU3:=hcl1 w3 [job1] 1 hk3 ht3 rfl (λi h1 h2=>by
  obtain rfl:i=0:=by simpa using h1
  rfl)
 have HU3:=Hm hU3.1
 have HT3:=Hm (Only.belLeft hbd hU3.2.only)
 have hk3s:=hk3.size
 have HF3:=Hm (fV.turn hU3.2 (by omega) (λb hb=>fV.new b (by omega)))
 have hs3:w2.heap.size≤w3.heap.size:=by omega
 clear ht1 hcl1 hk3 ht3 hU3 d8 d11 fV hbd hk3s hsV
 go_wp2_with fail
 refine⟨?_,?_⟩
 ·exact trivial
 iterate 7 (refine line_rd rfl (λK hK=>?_);go_simp;refine hK _ ?_;clear hK K)
 unfold Line
 go_wp2_with fail
 have d0:w3.cell? ⟨x,0,none⟩=some (.int .i64 3):=HF3.o.cell 0
 obtain⟨bf,off,cf,v1,elv,-,hsk,-,-,z0,z1,z2⟩:=sk_func HF3.o.funcs 0 (by simp[st1,st0])
 have d7:w3.cell? ⟨x,7,none⟩=some (.slice (some ⟨bf,off,none⟩) 1 cf):=by rw[show (.slice (some ⟨bf,off,none⟩) 1 cf:Value)=h.lv from elv.symm];exact HF3.o.cell 7
 rw[Nat.zero_mul,Nat.add_zero] at z0 z1 z2
 replace z0:w3.cell? ⟨bf,off,none⟩=some (.int .i64 1):=z0
 replace z1:w3.cell? ⟨bf,off+1,none⟩=some (.int .i64 2):=z1
 have hsk0:Kd.SK kBlock w3 _ fun0.blocks v1:=hsk
 obtain⟨Av,cv,rfl,-⟩:=sk_form hsk0
 have HSk:=Hm hsk0
 have hp3:x < w3.heap.size:=by omega
 clear hsk hsk0
 refine rgn [.rd 0,.rd 1,.rd 2,.rd 3,.rd 4,.rd 5,.rd 6,.rd 7,.rd 8,.rd 9,.rd 10,.rd 11,.rd 12,.rd 13,.rd 14,.hv 15 [],.rd 16,.rd 17,.rd 18,.rd 19,.rd 20] (n:=90) rfl ?_
 iterate 15 (refine line_rd rfl (λK hK=>?_);go_simp;refine hK _ ?_;clear hK K)
 refine line_hv rfl ?_
 go_wp2_with fail
 have hbd:Bel w3 w3.drew:=bD (bR w3)
 generalize w3.drew=V at hbd⊢
 have hl:=ask0_len 0 1 3 (by omega) (by omega) (by omega)
 refine(putAsk_any 0 1 3 (by omega) (by omega) (by omega) fun0 fun0_ok fun0_fine (by omega) _ _ V (sk_bel HSk.o hbd)).mono ?_
 rintro e w4 ⟨hb4,v4,rfl,hn4⟩
 have HB4:=Hm (bT hbd hb4)
 have HN4:=Hm (hn4.base hbd)
 obtain⟨A4,c4,rfl⟩:∃ A c,v4=.slice A (layF 2 (askBody 0 1 3 fun0)).length c:=by
  obtain⟨A4,c4,e,-⟩:=hn4
  exact⟨A4,c4,e⟩
 have hs4:w3.heap.size≤w4.heap.size:=HB4.o.size
 clear hb4 hn4 hbd HSk z0 z1 z2 d0 d7 elv hl
 go_wp2_with fail
 refine⟨?_,?_⟩
 ·exact trivial
 iterate 5 (refine line_rd rfl (λK hK=>?_);go_simp;refine hK _ ?_;clear hK K)
 unfold Line
 have hlen:h.bs.length=2:=HF3.o.lens.1
 obtain⟨Ab,cb,ebv,-,hrow,-⟩:=(HF3.o.bel HB4.o).row
 rw[hlen] at ebv
 obtain⟨bb,ob,rfl,y1⟩:=hrow 1 (by simp;omega)
 simp only[List.getElem_map] at y1
 have d12:w4.cell? ⟨x,12,none⟩=some (.slice (some ⟨bb,ob,none⟩) 2 cb):=by rw[←ebv];exact(HF3.o.bel HB4.o).cell 12
 have h1:1 < h.bs.length:=by omega
 have hp4:x < w4.heap.size:=by omega
 have HPut:=Hm (λ(v:Value)=>Bx.put_room h.bs[1].1 h.bs[1].2 st0.box (h.bxs.getD 1 []) v w4 ((HF3.o.bel HB4.o).boxes 1 h1).1 (by rw[(HF3.o.letters 1 h1).1];simp[st0]))
 obtain⟨bp1,hbp1⟩:∃ bp1,h.bs[1].1=bp1:=⟨_,rfl⟩
 rw[hbp1] at y1 HPut
 clear hrow
 go_wp2_with fail
 refine(HPut.o _).mono ?_
 rintro e w5 ⟨rfl,hs5⟩
 obtain⟨t5,f5⟩:=sent_at HF3.o 1 h1 HB4.o HN4.o hs5 (by simp[st0])
 have u5:=(HU3.o.turn t5 (by omega)).boxes (h.bxs.set 1 (h.bxs.getD 1 []++[.slice A4 (layF 2 (askBody 0 1 3 fun0)).length c4]))
 have hfin:∃ h',Turn w w5 ow ow (λn=>n=4∨n=5∨n=11)∧Farm w5 ow x st1 h' [[],[ask0]]∧FarmUp w5 ow st1 h' [job1] 1 :=
  ⟨_,⟨(((HF1.o.1.only.weaken (G:=λb=>ow b=4∨ow b=5∨ow b=11) (λb _ e=>.inr (.inl e))).trans HT2.o (λb _ e=>.inl e)).trans HT3.o (λb _ e=>.inl e)).trans t5.only (λb _ e=>.inr (.inr e)),λ_ _=>rfl,by omega⟩,f5,⟨u5.ex,u5.len,u5.done⟩⟩
 have HFin:=Hm hfin
 clear hfin t5 f5 u5 hs5 HPut HB4 HN4 HF3 HU3 HT3 HF2 HU2 HT2 HF1 HF y1 d12 hlen hbp1 ebv
 go_wp2_with fail
 rw[rounds_succ]
 go_wp2_with fail
 exact bodyPost_ret (v:=.int .i64 0) (by simp[results,Tryz.results28,go_sem]) rfl ⟨rfl,HFin.o⟩
end Go.Proofs.YtjkgligohegaeaaGreatDoor
