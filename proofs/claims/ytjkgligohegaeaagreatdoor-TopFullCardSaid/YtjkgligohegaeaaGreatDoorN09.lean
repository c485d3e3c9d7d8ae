/- Lemmas of the row. -/
import Derived.Ground.SlsfProg
import Derived.Laws.Cover3
import Derived.Laws.StructEq
import Derived.Shelf.SlGeneric
import Derived.Shelf.SlSortCmp.WholeK
import Derived.Test.YtjkgligohegaeaaGreatDoorN08
set_option linter.all false
set_option maxRecDepth 20000
set_option maxHeartbeats 12800000
namespace Go.Proofs.YtjkgligohegaeaaGreatDoor
open Go.RowKit
theorem bytes_step {w X X':World} {p:Nat} {l l':List UInt8} {c:Nat} {A:Option Addr} (h:Bytes X A l') (hA:∀ a,A=some a→p < a.block) (hs:RdStep X X' p l c):Bytes X' A l' :=
 Row.grown h hs.grown (λa ha e=>by have:=hA a ha;simp at e;omega)
def TellPost (w:World) (job lease:Nat) (f:Code) (ls:List (List PairV)) (e:Ending) (w':World):Prop :=
 Bel w w'∧∃ v u ok ok',e=.returned (.tuple #[.agg #[.int .i64 job,.int .u64 lease,.int .i64 f.params,.int .i64 f.regs,.int .i64 f.slots,v,u],.int .i64 0])∧Kd.SK kBlock w' ok f.blocks v∧Kd.SK kPairs w' ok' ls u∧(∀ b,ok b→w.heap.size≤b)∧∀ b,ok' b→w.heap.size≤b
theorem takeTell_any (job lease:Nat) (hj:job < 16) (hlease:lease < 18446744073709551616) (f:Code) (h:CodeOk f) (hf:∀ b∈f.blocks,BlockFine b) (ls:List (List PairV)) (h16:ls.length≤16) (hp:∀ l∈ls,PairsFine l)
  (hlen:(tellBody job lease f ls).length≤65536) (A:Option Addr) (ca:Nat) (w:World) (hA:Bytes w A (layF 3 (tellBody job lease f ls))) (hca:(layF 3 (tellBody job lease f ls)).length≤ca) :
  Calls Tryz.prog 22 #[.slice A (layF 3 (tellBody job lease f ls)).length ca] w (TellPost w job lease f ls):=by
 have HO:=Hm (λ(w':World) (hb:Bel w w')=>open_any 3 (tellBody job lease f ls) hlen A ca w' (hA.below hb) hca)
 have hlc:(encCode f).length≤65536:=by unfold tellBody at hlen;simp only[List.length_append] at hlen;omega
 have hlt:(encCert ls).length≤65536:=by unfold tellBody at hlen;simp only[List.length_append] at hlen;omega
 have e0:tellBody job lease f ls=leb job++(leb lease++(leb (encCode f).length++(encCode f++(encCert ls++[])))):=by simp[tellBody]
 have HC:=Hm (λ(w':World) (A:Option Addr) (ca:Nat) (hA:Bytes w' A (encCode f))=>readCode_any f h hf A ca w' hA hlc)
 have HT:=Hm (λ(w':World) (A:Option Addr) (ca:Nat) (hA:Bytes w' A (encCert ls))=>readCert_any ls h16 hp A ca w' hA hlt)
 obtain⟨n,hn⟩:∃ n,(layF 3 (tellBody job lease f ls)).length=n:=⟨_,rfl⟩
 rw[hn] at HO⊢
 rw[e0] at hlen HO
 simp only[List.length_append] at hlen
 have HN:=Hm hlen
 obtain⟨C,hC⟩:∃ C,encCode f=C:=⟨_,rfl⟩
 obtain⟨T,hT⟩:∃ T,encCert ls=T:=⟨_,rfl⟩
 rw[hC] at HC HN HO hlc
 rw[hT] at HT HN HO hlt
 have HLC:=Hm (And.intro hlc hlt)
 clear h hf h16 hp hA hca hn e0 hlen hC hT hlt
 have e3:byteV 3=.int .u8 3:=by simp[byteV]
 rw[e3] at HO
 clear e3
 go_enter Tryz.func22,Tryz.ntmps22
 go_wp2_with fail
 refine(HO.o _ (bA (bR _) _)).mono ?_
 rintro e w1 ⟨hb1,p,rfl,hp,hrd⟩
 have HRd:=Hm hrd
 have hq0:w1.heap[w.heap.size]?=some (.cells ([.int .i64 0,.int .u64 0,.int .i64 0,.int .i64 0,.int .i64 0,.slice none 0 0,.slice none 0 0]:List Value).toArray 71 (0,0)):=bHeap hb1 (heap_new _ _)
 have hqp:w.heap.size < p:=by simp at hp;omega
 have HB1:=Hm (bUA hb1)
 have HQ:=Hm hq0
 clear hb1 hrd hp hq0
 go_wp2_with fail
 refine(below_leb p job _ 16 w1 HRd.o (by omega) (by omega) (by have:=HN.o;simp only[List.length_append];omega)).mono ?_
 rintro e w2 ⟨rfl,hs⟩
 have HB2:=Hm (bS HB1.o hs (by omega))
 have HQ2:=Hm ((hs.grown.block w.heap.size (Array.getElem?_eq_some_iff.1 HQ.o).1 (by simp;omega)).trans HQ.o)
 have HRd2:=Hm hs.rd
 clear hs HQ HRd HB1
 go_wp2_with fail
 refine(num_lebC p lease _ w2 HRd2.o hlease (by have:=HN.o;simp only[List.length_append];omega)).mono ?_
 rintro e w4 ⟨rfl,hs⟩
 have HB4:=Hm (bS HB2.o hs (by omega))
 have HQ4:=Hm ((hs.grown.block w.heap.size (Array.getElem?_eq_some_iff.1 HQ2.o).1 (by simp;omega)).trans HQ2.o)
 have HRd4:=Hm hs.rd
 have hpz:p < w4.heap.size:=hs.rd.lt
 clear hs HQ2 HRd2 HB2
 obtain⟨bi,hbi⟩:∃ bi,bi=w4.heap.size:=⟨_,rfl⟩
 obtain⟨X,hX⟩:∃ X,X=w4.alloc (.cells #[.int .i64 job,.int .u64 lease,.int .i64 0,.int .i64 0,.int .i64 0,.slice none 0 0,.slice none 0 0] 71):=⟨_,rfl⟩
 have HB5:Hd (Bel w X):=⟨by rw[hX];exact bA HB4.o _⟩
 have HQ5:Hd (X.heap[w.heap.size]?=some (.cells ([.int .i64 0,.int .u64 0,.int .i64 0,.int .i64 0,.int .i64 0,.slice none 0 0,.slice none 0 0]:List Value).toArray 71 (0,0))):=⟨by rw[hX];exact bHeap (bA (bR _) _) HQ4.o⟩
 have HV5:Hd (X.heap[bi]?=some (.cells ([.int .i64 job,.int .u64 lease,.int .i64 0,.int .i64 0,.int .i64 0,.slice none 0 0,.slice none 0 0]:List Value).toArray 71 (0,0))):=⟨by rw[hX,hbi];exact heap_new _ _⟩
 have HRd5:Hd (RdAt X p (leb C.length++(C++(T++[]))) 0):=⟨by rw[hX];exact HRd4.o.below (bA (bR _) _)⟩
 have hbx:bi < X.heap.size:=by rw[hX,hbi];simp
 have hpb:p < bi:=by omega
 go_wp2_with fail
 rw[←hX]
 rw[←hbi]
 clear hX hbi HB4 HQ4 HRd4
 refine(below_leb p C.length _ 65537 X HRd5.o (by omega) (by omega) (by have:=HN.o;simp only[List.length_append];omega)).mono ?_
 rintro e w6 ⟨rfl,hs⟩
 have HB6:=Hm (bS HB5.o hs (by omega))
 have HQ6:=Hm ((hs.grown.block w.heap.size (Array.getElem?_eq_some_iff.1 HQ5.o).1 (by simp;omega)).trans HQ5.o)
 have HV6:=Hm ((hs.grown.block bi (Array.getElem?_eq_some_iff.1 HV5.o).1 (by simp;omega)).trans HV5.o)
 have HRd6:=Hm hs.rd
 have hz6:p < w6.heap.size:=hs.rd.lt
 clear hs HB5 HQ5 HV5 HRd5
 go_wp2_with fail
 refine(bytes_take p C (T++[]) w6 HRd6.o (by have:=HN.o;simp only[List.length_append];omega)).mono ?_
 rintro e w7 ⟨hs,v7,rfl,ho7⟩
 obtain⟨Ac,cc,rfl,hrc,-,hbc,-,-⟩:=own_row ho7
 have HB7:=Hm (bS HB6.o hs (by omega))
 have HQ7:=Hm ((hs.grown.block w.heap.size (Array.getElem?_eq_some_iff.1 HQ6.o).1 (by simp;omega)).trans HQ6.o)
 have HV7:=Hm ((hs.grown.block bi (Array.getElem?_eq_some_iff.1 HV6.o).1 (by simp;omega)).trans HV6.o)
 have HRd7:=Hm hs.rd
 have HBc:Hd (Bytes w7 Ac C):=⟨hrc⟩
 have HAc:Hd (∀ a,Ac=some a→p < a.block):=⟨λa ha=>by have:=hbc a ha;omega⟩
 clear hs HB6 HQ6 HV6 HRd6 ho7 hrc hbc
 go_wp2_with fail
 refine(left_rd p (T++[]) 0 w7 HRd7.o).mono ?_
 rintro e W ⟨rfl,rfl⟩
 have hz7:p < W.heap.size:=HRd7.o.lt
 go_wp2_with fail
 refine(bytes_take p T [] W HRd7.o (by have:=HLC.o;simp only[List.length_append,List.length_nil];omega)).mono ?_
 rintro e w8 ⟨hs,v8,rfl,ho8⟩
 obtain⟨At,ct,rfl,hrt,-,hbt,-,-⟩:=own_row ho8
 have HB8:=Hm (bS HB7.o hs (by omega))
 have HQ8:=Hm ((hs.grown.block w.heap.size (Array.getElem?_eq_some_iff.1 HQ7.o).1 (by simp;omega)).trans HQ7.o)
 have HV8:=Hm ((hs.grown.block bi (Array.getElem?_eq_some_iff.1 HV7.o).1 (by simp;omega)).trans HV7.o)
 have HRd8:=Hm hs.rd
 have HBc8:=Hm (bytes_step (w:=w) HBc.o HAc.o hs)
 have HBt:Hd (Bytes w8 At T):=⟨hrt⟩
 have hbiW:bi < W.heap.size:=(Array.getElem?_eq_some_iff.1 HV7.o).1
 have HAt:Hd (∀ a,At=some a→bi < a.block):=⟨λa ha=>by have:=hbt a ha;omega⟩
 clear hs HB7 HQ7 HV7 HRd7 ho8 hrt hbt HBc
 go_wp2_with fail
 refine(end_rd p [] 0 w8 HRd8.o).mono ?_
 rintro e w9 ⟨rfl,hs⟩
 simp only[ended,if_true] at hs⊢
 have HB9:=Hm (bS HB8.o hs (by omega))
 have HQ9:=Hm ((hs.grown.block w.heap.size (Array.getElem?_eq_some_iff.1 HQ8.o).1 (by simp;omega)).trans HQ8.o)
 have HV9:=Hm ((hs.grown.block bi (Array.getElem?_eq_some_iff.1 HV8.o).1 (by simp;omega)).trans HV8.o)
 have HRd9:=Hm hs.rd
 have HBc9:=Hm (bytes_step (w:=w) HBc8.o HAc.o hs)
 have HBt9:=Hm (bytes_step (w:=w) HBt.o (λa ha=>Nat.lt_trans hpb (HAt.o a ha)) hs)
 clear hs HB8 HQ8 HV8 HRd8 HBc8 HBt
 go_wp2_with fail
 refine(HC.o w9 Ac cc HBc9.o).mono ?_
 rintro e w10 ⟨hb,v6,ok,rfl,hsk,hok⟩
 have HB10:=Hm (bT HB9.o hb)
 have HQ10:=Hm (bHeap hb HQ9.o)
 have hv10:=bHeap hb HV9.o
 have HV10:=Hm hv10
 have HBt10:=Hm (HBt9.o.below hb)
 have hbi9:bi < w9.heap.size:=(Array.getElem?_eq_some_iff.1 HV9.o).1
 have HOk:Hd (∀ b,ok b→bi < b):=⟨λb hb=>by have:=hok b hb;omega⟩
 obtain⟨A6,c6,rfl,-,-⟩:=sk_form hsk
 have HK10:=Hm hsk
 have v2:w10.cell? ⟨bi,2,none⟩=some (.int .i64 0):=by rw[cell_at hv10];rfl
 have f2:=free_at hv10 2
 have v3:w10.cell? ⟨bi,3,none⟩=some (.int .i64 0):=by rw[cell_at hv10];rfl
 have f3:=free_at hv10 3
 have v4:w10.cell? ⟨bi,4,none⟩=some (.int .i64 0):=by rw[cell_at hv10];rfl
 have f4:=free_at hv10 4
 have v5:w10.cell? ⟨bi,5,none⟩=some (.slice none 0 0):=by rw[cell_at hv10];rfl
 have f5:=free_at hv10 5
 clear hb hsk hok hv10 HB9 HQ9 HV9 HRd9 HBc9 HBt9
 go_wp2_with fail
 obtain⟨Y,hY⟩:∃ Y,Y=((((w10.setCell ⟨bi,2,none⟩ (.int .i64 f.params)).setCell ⟨bi,3,none⟩ (.int .i64 f.regs)).setCell ⟨bi,4,none⟩ (.int .i64 f.slots)).setCell ⟨bi,5,none⟩ (.slice A6 f.blocks.length c6)):=⟨_,rfl⟩
 have hbw:w.heap.size≤bi:=by omega
 have HB11:Hd (Bel w Y):=⟨by rw[hY];exact bC (bC (bC (bC HB10.o hbw _ _) hbw _ _) hbw _ _) hbw _ _⟩
 have HQ11:Hd (Y.heap[w.heap.size]?=some (.cells ([.int .i64 0,.int .u64 0,.int .i64 0,.int .i64 0,.int .i64 0,.slice none 0 0,.slice none 0 0]:List Value).toArray 71 (0,0))):=⟨by
  rw[hY]
  have hne:w.heap.size≠bi:=by omega
  iterate 4 rw[heap_setCell_other _ ⟨bi,_,none⟩ w.heap.size _ hne]
  exact HQ10.o⟩
 have HV11:Hd (Y.heap[bi]?=some (.cells ([.int .i64 job,.int .u64 lease,.int .i64 f.params,.int .i64 f.regs,.int .i64 f.slots,.slice A6 f.blocks.length c6,.slice none 0 0]:List Value).toArray 71 (0,0))):=⟨by
  rw[hY]
  have:=set_at (set_at (set_at (set_at HV10.o 2 (.int .i64 f.params)) 3 (.int .i64 f.regs)) 4 (.int .i64 f.slots)) 5 (.slice A6 f.blocks.length c6)
  simpa using this⟩
 have hstay:∀ (W:World) (k:Nat) (u:Value) (ok:Nat→Prop) (l:List Block) (v:Value),(∀ b,ok b→b≠bi)→Kd.SK kBlock W ok l v→Kd.SK kBlock (W.setCell ⟨bi,k,none⟩ u) ok l v:=λW k u ok l v hb hW=>hW.stay (Stays.grown (grownBy_cell W bi k u) (λb hb' e=>hb b hb' (by simpa using e)))
 have hne6:∀ b,ok b→b≠bi:=λb hb=>by have:=HOk.o b hb;omega
 have HK11:Hd (Kd.SK kBlock Y ok f.blocks (.slice A6 f.blocks.length c6)):=⟨by
  rw[hY]
  exact hstay _ _ _ _ _ _ hne6 (hstay _ _ _ _ _ _ hne6 (hstay _ _ _ _ _ _ hne6 (hstay _ _ _ _ _ _ hne6 HK10.o)))⟩
 have HBt11:Hd (Bytes Y At T):=⟨by
  rw[hY]
  have hs:∀ (W:World) (k:Nat) (u:Value),Bytes W At T→Bytes (W.setCell ⟨bi,k,none⟩ u) At T:=λW k u hW=>Row.grown hW (grownBy_cell W bi k u) (λa ha e=>by have:=HAt.o a ha;simp at e;omega)
  exact hs _ _ _ (hs _ _ _ (hs _ _ _ (hs _ _ _ HBt10.o)))⟩
 rw[←hY]
 clear hY HB10 HQ10 HV10 HK10 HBt10 v2 v3 v4 v5 f2 f3 f4 f5 hstay hne6
 refine(HT.o Y At ct HBt11.o).mono ?_
 rintro e w12 ⟨hb,v7,ok',rfl,hsk,hok⟩
 have HB12:=Hm (bT HB11.o hb)
 have HQ12:=Hm (bHeap hb HQ11.o)
 have hv12:=bHeap hb HV11.o
 have HV12:=Hm hv12
 have hbi12:bi < Y.heap.size:=(Array.getElem?_eq_some_iff.1 HV11.o).1
 have HOk':Hd (∀ b,ok' b→bi < b):=⟨λb hb=>by have:=hok b hb;omega⟩
 obtain⟨A7,c7,rfl,-,-⟩:=sk_form hsk
 have HK12:=Hm (And.intro (sk_bel HK11.o hb) hsk)
 have v6:w12.cell? ⟨bi,6,none⟩=some (.slice none 0 0):=by rw[cell_at hv12];rfl
 have f6:=free_at hv12 6
 obtain⟨v0,v1,v2,v3,v4,v5⟩:=cC6 hv12
 have z0:w12.cell? ⟨w.heap.size,0,none⟩=some (.int .i64 0):=by rw[cell_at HQ12.o];rfl
 have g0:=free_at HQ12.o 0
 have z1:w12.cell? ⟨w.heap.size,1,none⟩=some (.int .u64 0):=by rw[cell_at HQ12.o];rfl
 have g1:=free_at HQ12.o 1
 have z2:w12.cell? ⟨w.heap.size,2,none⟩=some (.int .i64 0):=by rw[cell_at HQ12.o];rfl
 have g2:=free_at HQ12.o 2
 have z3:w12.cell? ⟨w.heap.size,3,none⟩=some (.int .i64 0):=by rw[cell_at HQ12.o];rfl
 have g3:=free_at HQ12.o 3
 have z4:w12.cell? ⟨w.heap.size,4,none⟩=some (.int .i64 0):=by rw[cell_at HQ12.o];rfl
 have g4:=free_at HQ12.o 4
 have z5:w12.cell? ⟨w.heap.size,5,none⟩=some (.slice none 0 0):=by rw[cell_at HQ12.o];rfl
 have g5:=free_at HQ12.o 5
 have z6:w12.cell? ⟨w.heap.size,6,none⟩=some (.slice none 0 0):=by rw[cell_at HQ12.o];rfl
 have g6:=free_at HQ12.o 6
 have hnbq:bi≠w.heap.size:=by omega
 have hq13:(w12.setCell ⟨bi,6,none⟩ (.slice A7 ls.length c7)).heap[w.heap.size]?=some (.cells ([.int .i64 0,.int .u64 0,.int .i64 0,.int .i64 0,.int .i64 0,.slice none 0 0,.slice none 0 0]:List Value).toArray 71 (0,0)):=by rw[heap_setCell_other w12 ⟨bi,6,none⟩ w.heap.size _ (by simp only;omega)];exact HQ12.o
 have HQF:=Hm (set_at (set_at (set_at (set_at (set_at (set_at (set_at hq13 0 (.int .i64 job)) 1 (.int .u64 lease)) 2 (.int .i64 f.params)) 3 (.int .i64 f.regs)) 4 (.int .i64 f.slots)) 5 (.slice A6 f.blocks.length c6)) 6 (.slice A7 ls.length c7))
 clear hb hsk hok hv12 HB11 HQ11 HV11 HK11 HBt11 hq13
 go_wp2
 obtain⟨y0,y1,y2,y3,y4,y5,y6⟩:=cC7 HQF.o
 refine bodyPost_ret (v:=.tuple #[.agg #[.int .i64 job,.int .u64 lease,.int .i64 f.params,.int .i64 f.regs,.int .i64 f.slots,.slice A6 f.blocks.length c6,.slice A7 ls.length c7],.int .i64 0]) (by simp[results,Tryz.results22,go_sem,y0,y1,y2,y3,y4,y5,y6]) rfl ⟨(bC (bC (bC (bC (bC (bC (bC (bC HB12.o hbw _ _) (Nat.le_refl _) _ _) (Nat.le_refl _) _ _) (Nat.le_refl _) _ _) (Nat.le_refl _) _ _) (Nat.le_refl _) _ _) (Nat.le_refl _) _ _) (Nat.le_refl _) _ _),_,_,ok,ok',rfl,?_,?_,λb hb=>by have:=HOk.o b hb;omega,λb hb=>by have:=HOk'.o b hb;omega⟩
 ·have hst:∀ (W:World) (q k:Nat) (u:Value),q≤bi→Kd.SK kBlock W ok f.blocks (.slice A6 f.blocks.length c6)→Kd.SK kBlock (W.setCell ⟨q,k,none⟩ u) ok f.blocks (.slice A6 f.blocks.length c6):=λW q k u hq hW=>hW.stay (Stays.grown (grownBy_cell W q k u) (λb hb e=>by have:=HOk.o b hb;simp at e;omega))
  exact hst _ _ _ _ hbw (hst _ _ _ _ hbw (hst _ _ _ _ hbw (hst _ _ _ _ hbw (hst _ _ _ _ hbw (hst _ _ _ _ hbw (hst _ _ _ _ hbw (hst _ _ _ _ (Nat.le_refl _) HK12.o.1)))))))
 ·have hst:∀ (W:World) (q k:Nat) (u:Value),q≤bi→Kd.SK kPairs W ok' ls (.slice A7 ls.length c7)→Kd.SK kPairs (W.setCell ⟨q,k,none⟩ u) ok' ls (.slice A7 ls.length c7):=λW q k u hq hW=>hW.stay (Stays.grown (grownBy_cell W q k u) (λb hb e=>by have:=HOk'.o b hb;simp at e;omega))
  exact hst _ _ _ _ hbw (hst _ _ _ _ hbw (hst _ _ _ _ hbw (hst _ _ _ _ hbw (hst _ _ _ _ hbw (hst _ _ _ _ hbw (hst _ _ _ _ hbw (hst _ _ _ _ (Nat.le_refl _) HK12.o.2)))))))
end Go.Proofs.YtjkgligohegaeaaGreatDoor
namespace Go.Proofs
open Go.Shelf
def Tryz.sortPair_ren:Go.Shelf.Ren:=⟨fun|6=>249|15=>235|14=>263|28=>259|29=>260|20=>269|21=>270|22=>271|23=>272|24=>273|25=>274|26=>275|27=>276|46=>278|47=>265|48=>266|49=>279|50=>280|57=>281|n=>n,fun|22=>117|24=>119|25=>297|3=>3|39=>121|0=>0|53=>206|55=>22|4=>4|46=>372|45=>371|50=>235|5=>5|9=>9|66=>380|70=>383|76=>390|77=>391|n=>n,fun|n=>n⟩
theorem Tryz.sortPair:Go.Proofs.SlLaysF0.n6 Tryz.prog Tryz.sortPair_ren:={
 mixed:=by kernel_rfl
 f6:=⟨Tryz.f249.name,by decide,Tryz.func249.trans (congrArg some (by kernel_rfl))⟩
 f14:=⟨Tryz.f263.name,by decide,Tryz.func263.trans (congrArg some (by kernel_rfl))⟩
 f15:=Tryz.func235.trans (congrArg some (by kernel_rfl))
 f20:=⟨Tryz.f269.name,by decide,Tryz.func269.trans (congrArg some (by kernel_rfl))⟩
 f21:=⟨Tryz.f270.name,by decide,Tryz.func270.trans (congrArg some (by kernel_rfl))⟩
 f22:=⟨Tryz.f271.name,by decide,Tryz.func271.trans (congrArg some (by kernel_rfl))⟩
 f23:=⟨Tryz.f272.name,by decide,Tryz.func272.trans (congrArg some (by kernel_rfl))⟩
 f24:=⟨Tryz.f273.name,by decide,Tryz.func273.trans (congrArg some (by kernel_rfl))⟩
 f25:=⟨Tryz.f274.name,by decide,Tryz.func274.trans (congrArg some (by kernel_rfl))⟩
 f26:=⟨Tryz.f275.name,by decide,Tryz.func275.trans (congrArg some (by kernel_rfl))⟩
 f27:=⟨Tryz.f276.name,by decide,Tryz.func276.trans (congrArg some (by kernel_rfl))⟩
 f28:=Tryz.func259.trans (congrArg some (by kernel_rfl))
 f29:=Tryz.func260.trans (congrArg some (by kernel_rfl))
 f46:=⟨Tryz.f278.name,by decide,Tryz.func278.trans (congrArg some (by kernel_rfl))⟩
 f47:=Tryz.func265.trans (congrArg some (by kernel_rfl))
 f48:=Tryz.func266.trans (congrArg some (by kernel_rfl))
 f49:=⟨Tryz.f279.name,by decide,Tryz.func279.trans (congrArg some (by kernel_rfl))⟩
 f50:=⟨Tryz.f280.name,by decide,Tryz.func280.trans (congrArg some (by kernel_rfl))⟩
 f57:=⟨Tryz.f281.name,by decide,Tryz.func281.trans (congrArg some (by kernel_rfl))⟩
 t0:=Tryz.underlying0
 a0:=Tryz.isAgg0
 z0:=Tryz.sizeOf0
 v0:=Tryz.zeroValue0
 t3:=Tryz.underlying3
 a3:=Tryz.isAgg3
 z3:=Tryz.sizeOf3
 v3:=Tryz.zeroValue3
 t4:=Tryz.underlying4
 a4:=Tryz.isAgg4
 z4:=Tryz.sizeOf4
 v4:=Tryz.zeroValue4
 t5:=Tryz.underlying5
 a5:=Tryz.isAgg5
 z5:=Tryz.sizeOf5
 v5:=Tryz.zeroValue5
 t9:=Tryz.underlying9
 a9:=Tryz.isAgg9
 z9:=Tryz.sizeOf9
 v9:=Tryz.zeroValue9
 t22:=Tryz.underlying117
 a22:=Tryz.isAgg117
 z22:=Tryz.sizeOf117
 v22:=Tryz.zeroValue117
 t25:=Tryz.underlying297
 a25:=Tryz.isAgg297
 z25:=Tryz.sizeOf297
 v25:=Tryz.zeroValue297
 t39:=Tryz.underlying121
 a39:=Tryz.isAgg121
 z39:=Tryz.sizeOf121
 v39:=Tryz.zeroValue121
 t45:=Tryz.underlying371
 a45:=Tryz.isAgg371
 z45:=Tryz.sizeOf371
 v45:=Tryz.zeroValue371
 t46:=Tryz.underlying372
 a46:=Tryz.isAgg372
 z46:=Tryz.sizeOf372
 v46:=Tryz.zeroValue372
 t50:=Tryz.underlying235
 a50:=Tryz.isAgg235
 z50:=Tryz.sizeOf235
 v50:=Tryz.zeroValue235
 t53:=Tryz.underlying206
 a53:=Tryz.isAgg206
 z53:=Tryz.sizeOf206
 v53:=Tryz.zeroValue206
 t55:=Tryz.underlying22
 a55:=Tryz.isAgg22
 z55:=Tryz.sizeOf22
 v55:=Tryz.zeroValue22
 t66:=Tryz.underlying380
 a66:=Tryz.isAgg380
 z66:=Tryz.sizeOf380
 v66:=Tryz.zeroValue380
 t70:=Tryz.underlying383
 a70:=Tryz.isAgg383
 z70:=Tryz.sizeOf383
 v70:=Tryz.zeroValue383
 t76:=Tryz.underlying390
 a76:=Tryz.isAgg390
 z76:=Tryz.sizeOf390
 v76:=Tryz.zeroValue390
 t77:=Tryz.underlying391
 a77:=Tryz.isAgg391
 z77:=Tryz.sizeOf391
 v77:=Tryz.zeroValue391 }
end Go.Proofs
namespace Go.Proofs.YtjkgligohegaeaaGreatDoor
open Go.RowKit
def cmpI (x y:Int):Int:=if x < y then -1 else if y < x then 1 else 0
def orI (a b:Int):Int:=if a≠0 then a else b
def ordP (a b:PairV):Int:=orI (cmpI a.v b.v) (cmpI a.l b.l)
theorem compare_any (x y:Int) (w:World):Calls Tryz.prog 199 #[.int .i64 x,.int .i64 y] w λe w'=>e=.returned (.int .i64 (cmpI x y))∧w'=w:=by
 by_cases h1:x < y
 ·have h2:¬y < x:=by omega
  go_enter Tryz.func199,Tryz.ntmps199
  go_wp2
  go_ret
  exact⟨by simp[cmpI,h1],rfl⟩
 ·by_cases h2:y < x
  ·go_enter Tryz.func199,Tryz.ntmps199
   go_wp2
   go_ret
   exact⟨by simp[cmpI,h1,h2],rfl⟩
  ·go_enter Tryz.func199,Tryz.ntmps199
   go_wp2
   go_ret
   have e:cmpI x y=0:=by rw[cmpI,if_neg (by omega),if_neg (by omega)]
   rw[e]
   exact⟨rfl,rfl⟩
theorem or_any (q:Nat) (a b:Int) (w:World) (h0:w.cell? ⟨q,0,none⟩=some (.int .i64 a)) (h1:w.cell? ⟨q,1,none⟩=some (.int .i64 b)) :
  Calls Tryz.prog 198 #[.slice (some ⟨q,0,none⟩) 2 2] w λe w'=>e=.returned (.int .i64 (orI a b))∧w'=w:=by
 go_enter Tryz.func198,Tryz.ntmps198
 go_wp2
 go_loop [8] (λi=>i=.int .i64 0∨(i=.int .i64 1∧a=0)∨(i=.int .i64 2∧a=0∧b=0)) (λi=>2-(intOf i).toNat)
 case atStart=>exact .inl rfl
 case round =>
  obtain rfl|⟨rfl,ha⟩|⟨rfl,ha,hb⟩:=hrel
  ·by_cases ha:a=0
   ·have ha':(a != 0)=false:=by simp[ha]
    have HA:=Hm ha
    clear ha
    go_wp2
    go_round
    case rel=>first|exact .inr (.inl ⟨rfl,HA.o⟩)|simp[HA.o]
    case measure=>simp[intOf]
   ·have ha':(a != 0)=true:=by simp[ha]
    go_wp2
    go_ret
    exact⟨by simp[orI,ha],rfl⟩
  ·subst ha
   by_cases hb:b=0
   ·have hb':(b != 0)=false:=by simp[hb]
    have HB:=Hm hb
    clear hb
    go_wp2
    go_round
    case rel=>first|exact .inr (.inr ⟨rfl,rfl,HB.o⟩)|simp[HB.o]
    case measure=>simp[intOf]
   ·have hb':(b != 0)=true:=by simp[hb]
    go_wp2
    go_ret
    exact⟨by simp[orI],rfl⟩
  ·subst ha hb
   go_wp2
   go_ret
   exact⟨by simp[orI],rfl⟩
def pairCells (p:PairV):List Value:=[.int .i64 p.v,.int .i64 p.l]
theorem grow3 (w:World) (a b c:Obj):((w.alloc a).alloc b).drew.alloc c=Go.Sort.grow (w.drewN 1) #[a,b,c]:=by
 cases w
 simp only[World.alloc,World.drew,World.drewN,Go.Sort.grow]
 congr 1
theorem order_any (a b:PairV) (w:World):Calls Tryz.prog 167 #[.agg (pairCells a).toArray,.agg (pairCells b).toArray] w λe w'=>e=.returned (.int .i64 (ordP a b)) ∧
  w'=Go.Sort.grow (w.drewN 1) #[.cells (pairCells a).toArray 119,.cells (pairCells b).toArray 119,.cells #[.int .i64 (cmpI a.v b.v),.int .i64 (cmpI a.l b.l)] 3]:=by
 obtain⟨x1,y1⟩:=a
 obtain⟨x2,y2⟩:=b
 simp only[pairCells]
 have HC:=Hm compare_any
 have HO:=Hm or_any
 go_enter Tryz.func167,Tryz.ntmps167
 go_wp2_with fail
 refine rgn [.rd 0,.rd 1,.rd 2,.rd 3,.rd 5,.rd 6,.rd 7,.rd 8,.hv 4 [5,6,7,8],.hv 9 [],.hv 10 [],.hv 11 [],.rd 12] (n:=17) rfl ?_
 iterate 8 (refine line_rd rfl (λK hK=>?_);go_simp;refine hK _ ?_;clear hK K)
 refine line_hv rfl ?_
 go_wp2_with fail
 refine(HC.o _ _ _).mono ?_
 rintro e w1 ⟨rfl,rfl⟩
 obtain⟨c1,hc1⟩:∃ c,cmpI x1 x2=c:=⟨_,rfl⟩
 obtain⟨c2,hc2⟩:∃ c,cmpI y1 y2=c:=⟨_,rfl⟩
 have HE:=Hm (And.intro hc1 hc2)
 rw[hc1]
 go_wp2_with fail
 refine⟨?_,?_⟩
 ·simp only[Again,slotOf]
  go_simp
 refine line_hv rfl ?_
 clear hc1
 go_wp2_with fail
 refine(HC.o _ _ _).mono ?_
 rintro e w1 ⟨rfl,rfl⟩
 rw[hc2]
 clear hc2
 obtain⟨r,hr⟩:∃ r,orI c1 c2=r:=⟨_,rfl⟩
 have HR:=Hm hr
 clear hr
 go_wp2_with fail
 refine⟨?_,?_⟩
 ·exact trivial
 refine line_hv rfl ?_
 go_wp2_with fail
 refine⟨?_,?_⟩
 ·exact trivial
 refine line_hv rfl ?_
 go_wp2_with fail
 refine(HO.o _ c1 c2 _ (by go_simp) (by go_simp)).mono ?_
 rintro e w1 ⟨rfl,rfl⟩
 go_wp2_with fail
 refine⟨?_,?_⟩
 ·exact trivial
 refine line_rd rfl (λK hK=>?_);go_simp;refine hK _ ?_;clear hK K
 unfold Line
 go_wp2
 go_ret
 refine⟨?_,?_⟩
 ·rw[ordP,HE.o.1,HE.o.2]
  first|done|rfl|exact congrArg _ (congrArg _ HR.o.symm)
 ·rw[HE.o.1,HE.o.2]
  exact grow3 _ _ _ _
end Go.Proofs.YtjkgligohegaeaaGreatDoor
namespace Go.Proofs.YtjkgligohegaeaaGreatDoor
open Go.RowKit Go.Sort
instance:Inhabited PairV:=⟨⟨0,0⟩⟩
def PLt (a b:PairV):Prop:=a.v < b.v∨a.v=b.v∧a.l < b.l
theorem ordP_lt (a b:PairV):ordP a b < 0↔PLt a b:=by
 unfold ordP orI cmpI PLt
 by_cases h1:a.v < b.v<;>by_cases h2:b.v < a.v<;>by_cases h3:a.l < b.l<;>by_cases h4:b.l < a.l<;>simp only[h1,h2,h3,h4,if_true,if_false]<;>(first|omega|(simp;done)|(simp;omega))
theorem ordP_zero (a b:PairV):ordP a b=0↔a=b:=by
 obtain⟨v,l⟩:=a
 obtain⟨v',l'⟩:=b
 simp only[PairV.mk.injEq]
 unfold ordP orI cmpI
 dsimp only
 by_cases h1:v < v'<;>by_cases h2:v' < v<;>by_cases h3:l < l'<;>by_cases h4:l' < l<;>simp only[h1,h2,h3,h4,if_true,if_false]<;>(first|omega|(simp;done)|(simp;omega))
theorem ltP (a b:PairV):ltOf ordP a b=true↔PLt a b:=by rw[ltOf,decide_eq_true_iff,ordP_lt]
theorem ltP' (a b:PairV):ltOf ordP a b=false↔¬PLt a b:=by rw[←ltP,Bool.not_eq_true]
theorem swoP:SWO (ltOf ordP) where
 irrefl x:=by rw[ltP'];unfold PLt;omega
 trans x y z h1 h2:=by rw[ltP] at *;unfold PLt at *;omega
 ntrans x y z h1 h2:=by rw[ltP'] at *;unfold PLt at *;omega
theorem pLt_of {a b:PairV} (h1:¬PLt b a) (h2:a≠b):PLt a b:=by
 obtain⟨v,l⟩:=a
 obtain⟨v',l'⟩:=b
 simp only[ne_eq,PairV.mk.injEq] at h2
 unfold PLt at *
 dsimp only at *
 omega
def flat2 (l:List PairV):List Value:=l.flatMap pairCells
theorem flat2_len (l:List PairV):(flat2 l).length=l.length*2:=by
 induction l with
 |nil=>rfl
 |cons p r ih=>simp only[flat2,List.flatMap_cons,List.length_append,List.length_cons] at ih⊢;rw[ih];simp[pairCells];omega
theorem flat2_get:∀ (l:List PairV) (t:Nat),t < l.length*2→(flat2 l)[t]?=some ((pairCells l[t / 2]!)[t % 2]!)
 |[],t,h=>by simp at h
 |p :: r,0,h=>by simp[flat2,pairCells]
 |p :: r,1,h=>by simp[flat2,pairCells]
 |p :: r,t+2,h=>by
  have h':=flat2_get r t (by simp at h;omega)
  rw[show (t+2) / 2=t / 2+1 by omega,show (t+2) % 2=t % 2 by omega]
  simpa [flat2,pairCells] using h'
theorem flatK_2 (l:List PairV):flatK pairCells 2 l.toArray=(flat2 l).toArray:=by
 apply Array.ext_getElem?
 intro t
 by_cases h:t < l.length*2
 ·rw[show (flat2 l).toArray[t]?=(flat2 l)[t]? by simp,flat2_get l t h,Array.getElem?_eq_getElem (by simpa using h)]
  have:=get_flatK pairCells 2 l.toArray t (by simpa using h)
  rw[getElem!_pos _ t (by simpa using h)] at this
  rw[this]
  simp
 ·rw[Array.getElem?_eq_none (by simpa using h),show (flat2 l).toArray[t]?=(flat2 l)[t]? by simp,List.getElem?_eq_none (by rw[flat2_len];omega)]
abbrev OwnP (w:World) (base:Nat) (v:Value) (l:List PairV):Prop:=w.ownsRow base 119 2 v l.length (flat2 l)
theorem cmpLaysP (blk off size:Nat) (w:World):CmpLays Tryz.prog 167 #[] pairCells 2 ordP blk off size w :=
 λ_ _ _ _ x y=>(order_any x y _).mono λe w' ⟨h1,h2⟩=>⟨h1,1,_,h2⟩
theorem holds_P {w:World} {base g cap:Nat} {l:List PairV} (h:OwnP w base (.slice (some ⟨g,0,none⟩) l.length cap) l):HoldsK pairCells 2 w g 0 l.toArray:=by
 rcases h.2 with ⟨e0,_⟩|⟨g',cap',cur,e0,hb,hg,hn,hm,hs,ht⟩
 ·cases e0
 ·cases e0
  unfold HoldsK
  rw[flatK_2]
  intro j hj
  have hj':j < l.length*2:=by simpa [flat2_len] using hj
  refine⟨?_,by simp[World.frozen?,hg]⟩
  have e1:(cur.toList.take (l.length*2))[j]?=(flat2 l)[j]?:=by rw[ht]
  rw[List.getElem?_take,if_pos hj',Array.getElem?_toList,List.getElem?_eq_getElem (by rw[flat2_len];exact hj')] at e1
  simp only[World.cell?,hg,Nat.zero_add]
  simp only[Option.isSome_none,Bool.false_eq_true,if_false]
  rw[e1]
  simp[getElem!_pos,flat2_len,hj']
theorem own_putP {w:World} {base g cap q:Nat} {l l':List PairV} {os:Array Obj} (h:OwnP w base (.slice (some ⟨g,0,none⟩) l.length cap) l) (hl:l'.length=l.length) :
  OwnP (sortWorldK pairCells 2 w g 0 q l'.toArray os) base (.slice (some ⟨g,0,none⟩) l.length cap) l':=by
 rcases h.2 with ⟨e0,_⟩|⟨g',cap',cur,e0,hb,hg,hn,hm,hs,ht⟩
 ·cases e0
 ·cases e0
  have hlt:g < w.heap.size:=(Array.getElem?_eq_some_iff.1 hg).1
  refine⟨flat2_len l',.inr ⟨g,cap,putCells id 0 (flat2 l').toArray cur,by rw[hl],hb,?_,by omega,hm,by simpa [putCells] using hs,?_⟩⟩
  ·unfold sortWorldK putRowK
   rw[flatK_2]
   simp only[Sort.grow]
   rw[Array.getElem?_append_left (by simpa [putRow,mapBlock,Sort.ahead] using hlt)]
   simp[putRow,mapBlock,Sort.ahead,Array.getElem?_modify,hg,onCells]
  ·apply List.ext_getElem?
   intro j
   rw[List.getElem?_take,Array.getElem?_toList]
   by_cases hj:j < l'.length*2
   ·have hjc:j < cur.size:=by omega
    simp only[if_pos hj,putCells,Array.getElem?_mapIdx,Array.getElem?_eq_getElem hjc,Option.map_some]
    rw[if_pos (by simp[flat2_len];omega),List.getElem?_eq_getElem (by rw[flat2_len];exact hj)]
    simp[getElem!_pos,flat2_len,hj]
   ·rw[if_neg hj,List.getElem?_eq_none (by rw[flat2_len];omega)]
theorem below_putP {w:World} {g q:Nat} {l':List PairV} {os:Array Obj}:w.grownBy (sortWorldK pairCells 2 w g 0 q l'.toArray os) (some g):=by
 refine⟨rfl,rfl,rfl,by simp[sortWorldK,Sort.grow,putRowK,putRow,mapBlock,Sort.ahead],λk hk hne=>?_⟩
 simp only[sortWorldK,Sort.grow,putRowK]
 rw[Array.getElem?_append_left (by simpa [putRow,mapBlock,Sort.ahead] using hk)]
 have:g≠k:=λe=>hne (by rw[e])
 simp[putRow,mapBlock,Sort.ahead,Array.getElem?_modify,this]
theorem sort_some {w:World} {base g cap:Nat} {l:List PairV} (h:OwnP w base (.slice (some ⟨g,0,none⟩) l.length cap) l) (hs:l.length < 4611686018427387904) :
  Calls Tryz.prog 249 #[.slice (some ⟨g,0,none⟩) l.length cap,.func (.func 167) #[] #[]] w λe w'=>e=.returned (.tuple #[])∧∃ l':List PairV,l'.Perm l∧l'.Pairwise (λa b=>¬PLt b a) ∧
   OwnP w' base (.slice (some ⟨g,0,none⟩) l'.length cap) l'∧w.grownBy w' (some g):=by
 have eg:∀ args w,(callFunc 167 args).run Tryz.prog w=.ok (.enter 167 args) w:=enters_of Tryz.func167 (by kernel_rfl) rfl
 have hlt:g < w.heap.size:=by
  rcases h.2 with ⟨e0,_⟩|⟨g',cap',cur,e0,hb,hg,_⟩
  ·cases e0
  ·cases e0;exact(Array.getElem?_eq_some_iff.1 hg).1
 have hcon:=AnyQ.slices_SortFunc Tryz.sortPair 2 Tryz.isAgg119 Tryz.sizeOf119 pairCells (λ_=>rfl) (λx v hv=>by simp[pairCells] at hv;rcases hv with rfl|rfl<;>rfl) ordP swoP 167 #[] g 0 cap l.toArray w eg (cmpLaysP g 0 _ w) (holds_P h) hlt (by simpa using hs)
 change Calls Tryz.prog 249 _ _ _ at hcon
 simp only[List.size_toArray] at hcon
 refine hcon.mono ?_
 rintro e w' ⟨rfl,d',n,os,hp,hsd,rfl⟩
 have hsz:d'.toList.length=l.length:=by simpa using hp.1
 refine⟨rfl,d'.toList,?_,?_,?_,?_⟩
 ·have:=hp.2.2
  rw[show d'.extract 0 l.length=d' by rw[show l.length=d'.size from hp.1.symm];simp,show l.toArray.extract 0 l.length=l.toArray by simp] at this
  simpa using this
 ·rw[List.pairwise_iff_getElem]
  intro i j hi hj hij
  have:=hsd i j (Nat.zero_le _) hij (by omega)
  rw[ltP',getElem!_pos d' i (by simpa using hi),getElem!_pos d' j (by simpa using hj)] at this
  simpa using this
 ·rw[hsz];simpa using own_putP (q:=n) (os:=os) h hsz
 ·simpa using below_putP (w:=w) (g:=g) (q:=n) (l':=d'.toList) (os:=os)
theorem eqP (x0 x1 y0 y1:Int) (w:World):(Op.equalIn 10000 119 (.agg #[.int .i64 x0,.int .i64 x1]) (.agg #[.int .i64 y0,.int .i64 y1])).run Tryz.prog w=.ok (decide (x0=y0∧x1=y1)) w:=by
 rw[show (10000:Nat)=9998+1+1 from rfl,run_equalIn_struct w _ 119 _ _ (by kernel_rfl) (by kernel_rfl)]
 have h3:Tryz.prog.underlying 3=some (.int .i64):=by kernel_rfl
 simp[Program.fieldsOf,Tryz.underlying119,Op.eqFields,go_sem,run_equalIn_int,h3]
 by_cases h0:x0=y0<;>by_cases h1:x1=y1<;>simp[h0,h1]
theorem guardP (x y:Operand) (xs ys:Array Value) (op:BinOp) (w:World):(eqGuard op 119 x y (.agg xs) (.agg ys)).run Tryz.prog w=.ok () w:=run_eqGuard_agg w op 119 x y xs ys (by kernel_rfl)
theorem isort_none (fv:Value) (w:World):Calls Tryz.prog 269 #[.slice none 0 0,.int .i64 0,.int .i64 0,fv] w λe w'=>e=.returned (.tuple #[])∧w'=w:=by
 go_enter Tryz.func269,Tryz.ntmps269
 go_wp2
 refine wp_loop_rounds 1 ?_
 rw[rounds_succ]
 go_wp2
 go_end0
 exact⟨rfl,rfl⟩
theorem pdq_none (lim:Int) (fv:Value) (w:World):Calls Tryz.prog 263 #[.slice none 0 0,.int .i64 0,.int .i64 0,.int .i64 lim,fv] w λe w'=>e=.returned (.tuple #[])∧w'=w:=by
 have HI:=Hm (isort_none fv w)
 go_enter Tryz.func263,Tryz.ntmps263
 go_wp2
 refine wp_loop_rounds 1 ?_
 rw[rounds_succ]
 go_wp2_with (go_at_call 269;refine HI.o.mono ?_;rintro e w' ⟨rfl,rfl⟩)
 (try simp only[Exit.inBlock,Exit.then]);refine bodyPost_ret (results_none rfl _ _ _) rfl ?_
 exact⟨rfl,rfl⟩
theorem len64_0 (w:World):Calls Tryz.prog 235 #[.int .u64 0] w λe w'=>(∃ r,e=.returned (.int .i64 r))∧w'=w:=by
 go_enter Tryz.func235,Tryz.ntmps235
 go_wp2
 go_ret
 exact⟨⟨_,rfl⟩,rfl⟩
theorem sort_none (fv:Value) (w:World):Calls Tryz.prog 249 #[.slice none 0 0,fv] w λe w'=>e=.returned (.tuple #[])∧w'=w:=by
 have HL:=Hm (len64_0 w)
 have HP:=Hm λlim=>pdq_none lim fv w
 go_enter Tryz.func249,Tryz.ntmps249
 go_wp2_with (first|(go_at_call 235;refine HL.o.mono ?_;rintro e w' ⟨⟨r,rfl⟩,rfl⟩)|(go_at_call 263;refine(HP.o _).mono ?_;rintro e w' ⟨rfl,rfl⟩))
 go_end0
 exact⟨rfl,rfl⟩
theorem sort_own {w:World} {base:Nat} {v:Value} {l:List PairV} (h:OwnP w base v l) (hs:l.length < 4611686018427387904) :
  Calls Tryz.prog 249 #[v,.func (.func 167) #[] #[]] w λe w'=>e=.returned (.tuple #[])∧∃ l':List PairV,l'.Perm l∧l'.Pairwise (λa b=>¬PLt b a)∧OwnP w' base v l'∧w.grownBy w' v.ownBlock:=by
 rcases h.2 with ⟨rfl,h0⟩|⟨g,cap,cur,rfl,hb,hg,hn⟩
 ·obtain rfl:l=[]:=List.eq_nil_of_length_eq_zero h0
  refine(sort_none _ w).mono ?_
  rintro e w' ⟨rfl,rfl⟩
  exact⟨rfl,[],.nil,.nil,h,grownBy_refl _ _⟩
 ·refine(sort_some h hs).mono ?_
  rintro e w' ⟨rfl,l',h1,h2,h3,h4⟩
  rw[h1.length_eq] at h3
  exact⟨rfl,l',h1,h2,by simpa [OwnP,h1.length_eq] using h3,h4⟩
theorem compact_any (l:List PairV) (hd:l.Pairwise PLt) (ok:Nat→Prop) (v:Value) (w:World) (hv:Kd.SK kPair w ok l v) :
  Calls Tryz.prog 250 #[v] w λe w'=>e=.returned v∧∃ n,w'=w.drewN n:=by
 obtain⟨A,c,rfl,hc1,hc2⟩:=sk_form hv
 have HV:=Hm hv
 have HD:=Hm hd
 have hc3:l.length≤9223372036854775807:=by unfold maxLen at hc2;omega
 clear hv hd
 by_cases h2:l.length < 2
 ·have h2':(l.length:Int) < 2:=by omega
  go_enter Tryz.func250,Tryz.ntmps250
  go_wp2
  go_ret
  exact⟨rfl,0,rfl⟩
 ·have h2':¬(l.length:Int) < 2:=by omega
  go_enter Tryz.func250,Tryz.ntmps250
  go_wp2_with fail
  go_loopw [3] (λi wr=>∃ j n:Nat,1≤j∧j≤l.length∧i=.int .i64 j∧wr=w.drewN n) (λi _=>l.length-(intOf i).toNat)
  case atStart=>exact⟨1,0,Nat.le_refl _,by omega,rfl,rfl⟩
  case round =>
   obtain⟨j,n,hj1,hj,rfl,rfl⟩:=hrel
   by_cases hlt:j < l.length
   ·obtain⟨k,hk⟩:∃ k,j=k+1:=⟨j-1,by omega⟩
    have hkl:k < l.length:=by omega
    obtain⟨b,off,c',e,-,x0,x1⟩:=sk_pair (HV.o.stay (Stays.drewN w n ok)) j hlt
    simp only[Value.slice.injEq] at e
    obtain⟨rfl,-,rfl⟩:=e
    obtain⟨b,off,c',e,-,y0,y1⟩:=sk_pair (HV.o.stay (Stays.drewN w n ok)) k hkl
    simp only[Value.slice.injEq,Option.some.injEq,Addr.mk.injEq] at e
    obtain⟨⟨rfl,rfl,-⟩,-,rfl⟩:=e
    have hne:=(List.pairwise_iff_getElem.1 HD.o) k j hkl hlt (by omega)
    have hw1:IntKind.i64.wrap ((j:Int)-1)=(k:Int):=by
     rw[hk];simp[IntKind.wrap,IntKind.bits,IntKind.signed];omega
    generalize l[j]=x at *
    generalize l[k]=y at *
    obtain⟨xv,xl⟩:=x
    obtain⟨yv,yl⟩:=y
    clear hk
    obtain⟨w1,hw⟩:∃ w1,w.drewN n=w1:=⟨_,rfl⟩
    have HW:=Hm hw
    rw[hw] at x0 x1 y0 y1⊢
    clear hw
    go_wp2_with fail
    have hE:∀ w,(Op.equalIn 10000 119 (.agg #[.int .i64 xv,.int .i64 xl]) (.agg #[.int .i64 yv,.int .i64 yl])).run Tryz.prog w=.ok false w:=λw=>by
     rw[eqP];unfold PLt at hne;dsimp only at hne;simp;omega
    have hG:=guardP
    have hQ:=λw=>@run_eql_struct Tryz.prog w
    go_quiet (fail)
    clear hE hG hQ x0 x1 y0 y1 hw1
    go_wp2_with fail
    go_roundw
    case rel=>exact⟨j+1,_,by omega,by omega,by go_num,by rw[←HW.o];exact World.drewN_drewN _ _ _⟩
    case measure=>simp[intOf];omega
   ·obtain rfl:j=l.length:=by omega
    go_wp2
    go_ret
    exact⟨rfl,n,rfl⟩
theorem eqNil (A:Option Addr) (n c:Nat) (w:World):(binOp .eql 117 (.slice A n c) (.slice none 0 0)).run Tryz.prog w=.ok (.bool A.isNone) w:=by
 have h:Tryz.prog.underlying 117=some (.slice 119):=by kernel_rfl
 simp only[binOp]
 simp[run_equal_slice_nil w 117 119 A n c h]
def WfP (p:PairV):Prop:=(Lit.int .i64 p.v).wf=true∧(Lit.int .i64 p.l).wf=true
theorem all_pairs {w:World} {ok:Nat→Prop}:∀ {l:List PairV} {vs:List Value},kPair.All w ok l vs→vs=flat2 l∧∀ p∈l,WfP p
 |[],vs,h=>⟨h,λn hn=>by cases hn⟩
 |x :: xs,vs,⟨cs,rest,e,h1,h3⟩=>by
  obtain⟨h4,h5⟩:=all_pairs h3
  obtain⟨h6,h7,rfl⟩:=kPair_open h1
  refine⟨by rw[e,h4];rfl,λn hn=>?_⟩
  rcases List.mem_cons.1 hn with rfl|hn
  ·exact⟨h6,h7⟩
  ·exact h5 n hn
theorem mk_pairs {w:World} {ok:Nat→Prop}:∀ {l:List PairV},(∀ n∈l,WfP n)→kPair.All w ok l (flat2 l)
 |[],_=>rfl
 |x :: xs,h=>⟨_,_,rfl,kPair_mk (h x (by simp)).1 (h x (by simp)).2,mk_pairs λn hn=>h n (by simp[hn])⟩
theorem own_sk {w:World} {base:Nat} {v:Value} {l:List PairV} (h:OwnP w base v l) (hw:∀ p∈l,WfP p):Kd.SK kPair w (λb=>base≤b) l v:=(Kd.SK.own h (mk_pairs hw) λb hb=>hb).1
theorem sk_pairs_wf {w:World} {ok:Nat→Prop} {l:List PairV} {v:Value} (h:Kd.SK kPair w ok l v):∀ p∈l,WfP p:=by
 obtain⟨A,c,vs,rfl,-,-,-,h⟩:=h
 exact(all_pairs h).2
def NewP (w w':World) (v:Value) (l:List PairV):Prop:=Bel w w'∧Kd.SK kPair w' (λb=>w.heap.size≤b) l v
theorem clone_any (l:List PairV) (ok:Nat→Prop) (v:Value) (w:World) (hv:Kd.SK kPair w ok l v) (h6:l.length≤100000) :
  Calls Tryz.prog 225 #[v] w λe w'=>∃ v',e=.returned v'∧NewP w w' v' l:=by
 obtain⟨A,c,vs,rfl,hc1,hc2,hrow,hall⟩:=hv
 have HO:=Hm (own_empty w w.heap.size 119 2 _ rfl (Nat.le_refl _))
 have H6:=Hm h6
 clear h6
 have hN:=eqNil
 cases A with
 |none =>
  have h0:vs=[]:=by
   cases vs with
   |nil=>rfl
   |cons x r =>
    obtain⟨b,off,e,_⟩:=hrow 0 (by simp)
    cases e
  have hl:=hall.len
  rw[h0] at hl
  obtain rfl:l=[]:=List.eq_nil_of_length_eq_zero (by have:=hl;simp only[List.length_nil] at this;have h2:kPair.size=2:=rfl;rw[h2] at this;omega)
  go_enter Tryz.func225,Tryz.ntmps225
  go_wp2
  go_ret
  exact⟨_,rfl,bR _,Kd.SK.nil 0 (Nat.zero_le _) none⟩
 |some a =>
  obtain⟨n,hn⟩:∃ n,l.length=n:=⟨_,rfl⟩
  have HA:=Hm (And.intro hrow.row hall)
  have HN:=Hm hn
  rw[hn] at hc1 H6⊢
  clear hrow hall hn
  go_enter Tryz.func225,Tryz.ntmps225
  go_wp2_with (at_builtin;refine app0 iPair Tryz.underlying117 rfl (.tmp 5) (.tmp 6) rfl rfl HO.o (show w.heap.size≤(w.alloc _).heap.size by simp) (A:=some a) (m:=n) (c:=c) rfl (HA.o.1.below (bA (bR _) _)) (by rw[HA.o.2.len,HN.o];rfl) (by have:=H6.o;omega) ?_;intro v' w' hb ho)
  go_ret
  have h2:=all_pairs HA.o.2
  refine⟨_,rfl,bUA hb,?_⟩
  rw[h2.1,←HN.o] at ho
  exact own_sk ho h2.2
instance:DecidableEq PairV:=λa b=>decidable_of_iff (a.v=b.v∧a.l=b.l) (by obtain⟨v,l⟩:=a;obtain⟨v2,l2⟩:=b;simp)
theorem order_bel (a b:PairV) (w:World):Calls Tryz.prog 167 #[.agg #[.int .i64 a.v,.int .i64 a.l],.agg #[.int .i64 b.v,.int .i64 b.l]] w λe w'=>e=.returned (.int .i64 (ordP a b))∧Bel w w':=by
 refine(order_any a b w).mono ?_
 rintro e w' ⟨rfl,rfl⟩
 refine⟨rfl,?_⟩
 rw[←grow3]
 exact bUN (n:=0) (bA (bD (bA (bA (bR w) _) _)) _)
theorem mem_of_bounds {l:List PairV} (hd:l.Pairwise PLt) (t:PairV) (i:Nat) (hi:i < l.length) (hlo:∀ k (h:k < l.length),k < i→PLt l[k] t) (hhi:∀ k (h:k < l.length),i≤k→¬PLt l[k] t):(t∈l)↔l[i]=t:=by
 constructor
 ·intro h
  obtain⟨k,hk,e⟩:=List.getElem_of_mem h
  rcases Nat.lt_trichotomy k i with hki|hki|hki
  ·have:=hlo k hk hki;rw[e] at this;unfold PLt at this;omega
  ·subst hki;exact e
  ·have h1:=List.pairwise_iff_getElem.1 hd i k hi hk hki
   rw[e] at h1
   exact absurd h1 (hhi i hi (Nat.le_refl _))
 ·rintro rfl;exact List.getElem_mem hi
theorem not_mem_of_bounds {l:List PairV} (t:PairV) (hlo:∀ k (h:k < l.length),PLt l[k] t):¬t∈l:=by
 intro h
 obtain⟨k,hk,e⟩:=List.getElem_of_mem h
 have:=hlo k hk;rw[e] at this;unfold PLt at this;omega
theorem bs_any (l:List PairV) (hd:l.Pairwise PLt) (t:PairV) (hc3:l.length≤4611686018427387904) (ok:Nat→Prop) (v:Value) (w:World) (hv:Kd.SK kPair w ok l v) :
  Calls Tryz.prog 200 #[v,.agg #[.int .i64 t.v,.int .i64 t.l],.func (.func 167) #[] #[]] w λe w'=>Bel w w'∧∃ i:Int,e=.returned (.tuple #[.int .i64 i,.bool (decide (t∈l))]):=by
 obtain⟨A,c,rfl,hc1,hc2⟩:=sk_form hv
 have HV:=Hm hv
 have HD:=Hm hd
 have HO:=Hm order_bel
 obtain⟨tv,tl⟩:=t
 clear hv hd
 go_enter Tryz.func200,Tryz.ntmps200
 go_wp2_with fail
 obtain⟨q,hq⟩:∃ q,q=w.heap.size:=⟨_,rfl⟩
 have HQ:=Hm hq
 have HC:Hd ((w.alloc (.cells #[.int .i64 tv,.int .i64 tl] 119)).cell? ⟨q,0,none⟩=some (.int .i64 tv)∧(w.alloc (.cells #[.int .i64 tv,.int .i64 tl] 119)).cell? ⟨q,1,none⟩=some (.int .i64 tl)):=⟨by subst hq;constructor<;>simp[go_sem]⟩
 rw[←hq]
 clear hq
 go_loopw [9,10] (λi9 i10 wr=>∃ i j:Nat,i≤j∧j≤l.length∧i9=.int .i64 i∧i10=.int .i64 j∧Bel w wr∧wr.cell? ⟨q,0,none⟩=some (.int .i64 tv)∧wr.cell? ⟨q,1,none⟩=some (.int .i64 tl)∧(∀ k (h:k < l.length),k < i→PLt l[k] ⟨tv,tl⟩)∧(∀ k (h:k < l.length),j≤k→¬PLt l[k] ⟨tv,tl⟩)) (λi9 i10 _=>(intOf i10).toNat-(intOf i9).toNat)
 case atStart=>exact⟨0,l.length,Nat.zero_le _,Nat.le_refl _,rfl,rfl,bA (bR _) _,HC.o.1,HC.o.2,λk h h0=>by omega,λk h h0=>by omega⟩
 case round =>
  obtain⟨i,j,hij,hj,rfl,rfl,hb,c0,c1,hlo,hhi⟩:=hrel
  have HB:=Hm hb
  have HL:=Hm (And.intro hlo hhi)
  clear hb hlo hhi
  by_cases hlt:i < j
  ·obtain⟨m,hm⟩:∃ m:Nat,((i:Int)+j) / 2=m:=⟨(i+j) / 2,by omega⟩
   have hmi:i≤m:=by omega
   have hmj:m < j:=by omega
   have hml:m < l.length:=by omega
   obtain⟨b,off,c',e,-,x0,x1⟩:=sk_pair (HV.o.stay (Stays.below HB.o)) m hml
   simp only[Value.slice.injEq] at e
   obtain⟨rfl,-,rfl⟩:=e
   obtain⟨x,hx⟩:∃ x,l[m]=x:=⟨_,rfl⟩
   have HX:=Hm (show ∀ k (h:k < l.length),k=m→l[k]=x by intro k h e;subst e;exact hx)
   rw[hx] at x0 x1
   clear hx
   obtain⟨xv,xl⟩:=x
   dsimp only at x0 x1
   have HM:=Hm hm
   have HCC:=Hm (And.intro c0 c1)
   go_wp2_with fail
   (try rw[hm])
   clear hm
   refine rgn [.rd 0,.rd 1,.rd 2,.rd 3,.rd 4,.rd 5,.hv 6 [],.rd 7] (n:=49) rfl ?_
   iterate 6 (refine line_rd rfl (λK hK=>?_);go_simp;refine hK _ ?_;clear hK K)
   refine line_hv rfl ?_
   go_wp2_with fail
   refine(HO.o ⟨xv,xl⟩ ⟨tv,tl⟩ _).mono ?_
   rintro e w2 ⟨rfl,hb2⟩
   have HB2:=Hm (bU hb2)
   clear hb2
   go_wp2_with fail
   refine⟨?_,?_⟩
   ·exact trivial
   iterate 1 (refine line_rd rfl (λK hK=>?_);go_simp;refine hK _ ?_;clear hK K)
   unfold Line
   obtain⟨r,hr⟩:∃ r,ordP ⟨xv,xl⟩ ⟨tv,tl⟩=r:=⟨_,rfl⟩
   have HR:=Hm ((ordP_lt ⟨xv,xl⟩ ⟨tv,tl⟩).symm.trans (by rw[hr]))
   clear x0 x1 c0 c1
   by_cases hr0:r < 0
   ·have HP:=Hm (HR.o.2 hr0)
    go_wp2_with fail
    go_roundw
    case rel=>exact⟨m+1,j,by omega,hj,by go_num,rfl,bT HB.o HB2.o,bCell HB2.o HCC.o.1,bCell HB2.o HCC.o.2,λk h h0=>(by
     rcases Nat.lt_or_ge k m with h1|h1
     ·by_cases h2:k < i
      ·exact HL.o.1 k h h2
      ·have h3:=List.pairwise_iff_getElem.1 HD.o k m h hml h1
       rw[HX.o m hml rfl] at h3
       have h4:=HP.o
       unfold PLt at h3 h4⊢
       dsimp only at *
       omega
     ·have:k=m:=by omega
      rw[HX.o k h this];exact HP.o),HL.o.2⟩
    case measure=>simp[intOf];omega
   ·have HP:=Hm (λh=>hr0 (HR.o.1 h))
    go_wp2_with fail
    go_roundw
    case rel=>exact⟨i,m,hmi,by omega,rfl,rfl,bT HB.o HB2.o,bCell HB2.o HCC.o.1,bCell HB2.o HCC.o.2,HL.o.1,λk h h0=>(by
     rcases Nat.lt_or_ge m k with h1|h1
     ·intro h5
      have h3:=List.pairwise_iff_getElem.1 HD.o m k hml h h1
      rw[HX.o m hml rfl] at h3
      refine HP.o ?_
      unfold PLt at h3 h5⊢
      dsimp only at *
      omega
     ·have:k=m:=by omega
      rw[HX.o k h this];exact HP.o)⟩
    case measure=>simp[intOf];omega
  ·obtain rfl:i=j:=by omega
   by_cases hi:i < l.length
   ·have hi':decide ((i:Int) < l.length)=true:=by simp;omega
    obtain⟨b,off,c',e,-,x0,x1⟩:=sk_pair (HV.o.stay (Stays.below HB.o)) i hi
    simp only[Value.slice.injEq] at e
    obtain⟨rfl,-,rfl⟩:=e
    have HX:=Hm (mem_of_bounds HD.o ⟨tv,tl⟩ i hi HL.o.1 HL.o.2)
    obtain⟨x,hx⟩:∃ x,l[i]=x:=⟨_,rfl⟩
    rw[hx] at x0 x1 HX
    clear hx
    obtain⟨xv,xl⟩:=x
    dsimp only at x0 x1
    go_wp2_with fail
    refine rgn [.rd 0,.rd 1,.rd 2,.rd 3,.rd 4,.rd 5,.rd 6,.rd 7,.rd 8,.rd 9,.rd 10,.hv 11 [0],.rd 12,.rd 13,.rd 14,.rd 15] (n:=49) rfl ?_
    iterate 11 (refine line_rd rfl (λK hK=>?_);go_simp;refine hK _ ?_;clear hK K)
    refine line_hv rfl ?_
    go_wp2_with fail
    refine(HO.o ⟨xv,xl⟩ ⟨tv,tl⟩ _).mono ?_
    rintro e w2 ⟨rfl,hb2⟩
    have HB2:=Hm (bU hb2)
    clear hb2
    go_wp2_with fail
    refine⟨?_,?_⟩
    ·simp only[Again,slotOf]
     go_simp
    iterate 4 (refine line_rd rfl (λK hK=>?_);go_simp;refine hK _ ?_;clear hK K)
    unfold Line
    clear x0 x1
    go_wp2
    go_ret2
    have hz:(ordP ⟨xv,xl⟩ ⟨tv,tl⟩ == 0)=decide ((⟨tv,tl⟩:PairV)∈l):=by
     rw[Bool.eq_iff_iff,beq_iff_eq,decide_eq_true_iff,ordP_zero,HX.o]
    rw[hz]
    exact⟨bT HB.o HB2.o,_,rfl⟩
   ·obtain rfl:i=l.length:=by omega
    have hi':decide ((l.length:Int) < l.length)=false:=by simp
    go_wp2_with fail
    go_quiet (fail)
    go_wp2
    go_ret2
    have hz:false=decide ((⟨tv,tl⟩:PairV)∈l):=by
     symm
     rw[decide_eq_false_iff_not]
     exact not_mem_of_bounds _ λk h=>HL.o.1 k h h
    rw[←hz]
    exact⟨bN HB.o _,_,rfl⟩
theorem has_any (l:List PairV) (hd:l.Pairwise PLt) (tv tl:Int) (hc3:l.length≤4611686018427387904) (ok:Nat→Prop) (v:Value) (w:World) (hv:Kd.SK kPair w ok l v) :
  Calls Tryz.prog 168 #[v,.int .i64 tv,.int .i64 tl] w λe w'=>Bel w w'∧e=.returned (.bool (decide ((⟨tv,tl⟩:PairV)∈l))):=by
 obtain⟨A,c,rfl,-,-⟩:=sk_form hv
 have H:=Hm (bs_any l hd ⟨tv,tl⟩ hc3 ok _ w hv)
 clear hv hd hc3
 obtain⟨r,hr⟩:∃ r,decide ((⟨tv,tl⟩:PairV)∈l)=r:=⟨_,rfl⟩
 rw[hr] at H⊢
 clear hr
 go_enter Tryz.func168,Tryz.ntmps168
 go_wp2_with fail
 refine H.o.mono ?_
 rintro e w2 ⟨hb,i,rfl⟩
 have HB:=Hm hb
 clear hb
 go_wp2
 go_ret
 exact⟨HB.o,rfl⟩
theorem within_any (l all:List PairV) (hd:all.Pairwise PLt) (hin:∀ p∈l,p∈all) (hc3:all.length≤4611686018427387904) (ok ok2:Nat→Prop) (v v2:Value) (w:World) (hv:Kd.SK kPair w ok l v) (hv2:Kd.SK kPair w ok2 all v2) :
  Calls Tryz.prog 137 #[v,v2] w λe w'=>Bel w w'∧e=.returned (.bool true):=by
 obtain⟨A,c,rfl,hc1,hc2⟩:=sk_form hv
 obtain⟨A2,c2,rfl,-,-⟩:=sk_form hv2
 have HV:=Hm hv
 have HV2:=Hm hv2
 have HI:=Hm hin
 have HH:=Hm (λ(tv tl:Int) (wx:World) (hb:Bel w wx)=>has_any all hd tv tl hc3 ok2 _ wx (hv2.stay (Stays.below hb)))
 clear hv hv2 hd hin hc3
 have hl9:l.length≤9223372036854775807:=by unfold maxLen at hc2;omega
 go_enter Tryz.func137,Tryz.ntmps137
 go_wp2_with fail
 go_loopw [9] (λi wr=>∃ j:Nat,j≤l.length∧i=.int .i64 j∧Bel w wr) (λi _=>l.length-(intOf i).toNat)
 case atStart=>exact⟨0,Nat.zero_le _,rfl,bR _⟩
 case round =>
  obtain⟨j,hj,rfl,hb⟩:=hrel
  have HB:=Hm hb
  clear hb
  by_cases hlt:j < l.length
  ·obtain⟨b,off,c',e,-,x0,x1⟩:=sk_pair (HV.o.stay (Stays.below HB.o)) j hlt
   simp only[Value.slice.injEq] at e
   obtain⟨rfl,-,rfl⟩:=e
   have HX:=Hm (HI.o _ (List.getElem_mem hlt))
   generalize l[j]=x at *
   obtain⟨xv,xl⟩:=x
   dsimp only at x0 x1
   go_wp2_with fail
   refine(HH.o xv xl _ (bA HB.o _)).mono ?_
   rintro e w2 ⟨hb2,rfl⟩
   have HB2:=Hm (bT HB.o (bUA hb2))
   rw[show decide ((⟨xv,xl⟩:PairV)∈all)=true by simpa using HX.o]
   clear hb2 x0 x1
   go_wp2_with fail
   go_roundw
   case rel=>exact⟨j+1,by omega,by go_num,HB2.o⟩
   case measure=>simp[intOf];omega
  ·obtain rfl:j=l.length:=by omega
   go_wp2
   go_ret
   exact⟨HB.o,rfl⟩
theorem keep227 (q:Nat) (t:Int) (p:PairV) (w:World) (h:w.cell? ⟨q,0,none⟩=some (.int .i64 t)) :
  Calls Tryz.prog 227 #[.agg #[.int .i64 p.v,.int .i64 p.l],.pointer (some ⟨q,0,none⟩)] w λe w'=>e=.returned (.bool (decide (p.l≠t)))∧Bel w w':=by
 obtain⟨v,l⟩:=p
 have hq:q < w.heap.size:=World.block_lt_of_cell? w _ h
 go_enter Tryz.func227,Tryz.ntmps227
 go_wp2
 go_ret
 refine⟨?_,bA (bR _) _⟩
 congr 2
 by_cases h:l=t<;>simp[h]
theorem keep229 (q:Nat) (t:Int) (p:PairV) (w:World) (h:w.cell? ⟨q,0,none⟩=some (.int .i64 t)) :
  Calls Tryz.prog 229 #[.agg #[.int .i64 p.v,.int .i64 p.l],.pointer (some ⟨q,0,none⟩)] w λe w'=>e=.returned (.bool (decide (p.v≠t)))∧Bel w w':=by
 obtain⟨v,l⟩:=p
 have hq:q < w.heap.size:=World.block_lt_of_cell? w _ h
 go_enter Tryz.func229,Tryz.ntmps229
 go_wp2
 go_ret
 refine⟨?_,bA (bR _) _⟩
 congr 2
 by_cases h:v=t<;>simp[h]
theorem keep228 (q q2:Nat) (t t2:Int) (p:PairV) (w:World) (h:w.cell? ⟨q,0,none⟩=some (.int .i64 t)) (h2:w.cell? ⟨q2,0,none⟩=some (.int .i64 t2)) :
  Calls Tryz.prog 228 #[.agg #[.int .i64 p.v,.int .i64 p.l],.pointer (some ⟨q,0,none⟩),.pointer (some ⟨q2,0,none⟩)] w λe w'=>e=.returned (.bool (decide (p.v≠t∧p.l≠t2)))∧Bel w w':=by
 obtain⟨v,l⟩:=p
 have hq:q < w.heap.size:=World.block_lt_of_cell? w _ h
 have hq2:q2 < w.heap.size:=World.block_lt_of_cell? w _ h2
 by_cases hv:v=t
 ·subst hv
  go_enter Tryz.func228,Tryz.ntmps228
  go_wp2
  go_ret
  exact⟨by simp,bA (bR _) _⟩
 ·have hv':(v != t)=true:=by simp[hv]
  go_enter Tryz.func228,Tryz.ntmps228
  go_wp2
  go_ret
  refine⟨?_,bA (bR _) _⟩
  congr 2
  by_cases h:l=t2<;>simp[h,hv]
theorem flat2_app (l r:List PairV):flat2 (l++r)=flat2 l++flat2 r:=by simp[flat2]
theorem flat2_one:∀ (l:List PairV),∀ u∈flat2 l,u.oneCell'=true:=by
 intro l u hu
 obtain⟨p,_,hp⟩:=List.mem_flatMap.1 hu
 simp[pairCells] at hp
 rcases hp with rfl|rfl<;>rfl
theorem filter_snoc {α:Type} (f:α→Bool) (l:List α) (j:Nat) (h:j < l.length):(l.take (j+1)).filter f=(l.take j).filter f++(if f l[j] then [l[j]] else []):=by
 rw[take_snoc' l j h,List.filter_append]
 congr 1
 by_cases h2:f l[j]=true<;>simp[h2]
theorem strict_of {l':List PairV} (h:l'.Pairwise (λa b=>¬PLt b a)) (hn:l'.Nodup):l'.Pairwise PLt:=by
 have:=h.and hn
 exact this.imp λ⟨h1,h2⟩=>pLt_of h1 h2
theorem sk_row {w:World} {ok:Nat→Prop} {l:List PairV} {A:Option Addr} {c:Nat} (h:Kd.SK kPair w ok l (.slice A l.length c)):Row w A (flat2 l):=by
 obtain⟨A',c',vs,e,_,_,hr,ha⟩:=h
 cases e
 rw[←(all_pairs ha).1]
 exact hr.row
def WithPost (w:World) (l0:List PairV) (e:Ending) (w':World):Prop:=∃ v' l',e=.returned v'∧NewP w w' v' l'∧l'.Pairwise PLt∧l'.Perm l0
theorem with_any (g:Nat) (cb:Array Value) (st:PairV→Bool) (l more:List PairV) (ok ok2:Nat→Prop) (v v2:Value) (w:World) (hv:Kd.SK kPair w ok l v) (hv2:Kd.SK kPair w ok2 more v2)
  (eg:∀ args w,(callFunc g args).run Tryz.prog w=.ok (.enter g args) w)
  (hst:∀ p∈l,∀ w1,Bel w w1→Calls Tryz.prog g (#[.agg #[.int .i64 p.v,.int .i64 p.l]]++cb) w1 λe w'=>e=.returned (.bool (st p))∧Bel w1 w')
  (hnd:(l.filter st++more).Nodup) (h6:l.length+more.length≤100000) :
  Calls Tryz.prog 226 #[v,.func (.func g) #[] cb,v2] w (WithPost w (l.filter st++more)):=by
 obtain⟨A,c,rfl,hc1,hc2⟩:=sk_form hv
 obtain⟨A2,c2,rfl,-,-⟩:=sk_form hv2
 have HV:=Hm hv
 have HV2:=Hm hv2
 have HS:=Hm hst
 have HN:=Hm hnd
 have H6:=Hm h6
 have hl9:l.length≤9223372036854775807:=by unfold maxLen at hc2;omega
 clear hv hv2 hst hnd h6
 go_enter Tryz.func226,Tryz.ntmps226
 go_wp2_with fail
 go_loopw [7,12] (λv7 i wr=>∃ j:Nat,j≤l.length∧i=.int .i64 j∧Bel w wr∧OwnP wr w.heap.size v7 ((l.take j).filter st)) (λ_ i _=>l.length-(intOf i).toNat)
 case atStart=>exact⟨0,Nat.zero_le _,rfl,bR _,own_none _ _ _ _ _ rfl⟩
 case round =>
  obtain⟨j,hj,rfl,hb,ho⟩:=hrel
  have HB:=Hm hb
  have HO:=Hm ho
  have hws:=HB.o.size
  have HLj:Hd (((l.take j).filter st).length≤j):=⟨Nat.le_trans (List.length_filter_le _ _) (by simp;omega)⟩
  clear hb ho
  by_cases hlt:j < l.length
  ·obtain⟨b,off,c',e,-,x0,x1⟩:=sk_pair (HV.o.stay (Stays.below HB.o)) j hlt
   simp only[Value.slice.injEq] at e
   obtain⟨rfl,-,rfl⟩:=e
   have HX:=Hm (HS.o _ (List.getElem_mem hlt))
   have HF:=Hm (filter_snoc st l j hlt)
   generalize l[j]=x at *
   obtain⟨xv,xl⟩:=x
   dsimp only at x0 x1
   obtain⟨r,hr⟩:∃ r,st ⟨xv,xl⟩=r:=⟨_,rfl⟩
   rw[hr] at HX HF
   clear hr
   go_wp2_with fail
   obtain⟨p,hp⟩:∃ p,p=wr.heap.size:=⟨_,rfl⟩
   have HC:Hd ((wr.alloc (.cells #[.int .i64 xv,.int .i64 xl] 119)).cell? ⟨p,0,none⟩=some (.int .i64 xv)∧(wr.alloc (.cells #[.int .i64 xv,.int .i64 xl] 119)).cell? ⟨p,1,none⟩=some (.int .i64 xl)):=⟨by subst hp;constructor<;>simp[go_sem]⟩
   rw[←hp]
   clear hp
   refine(HX.o _ (bA HB.o _)).mono ?_
   rintro e w2 ⟨rfl,hb2⟩
   have c0:=bCell hb2 HC.o.1
   have c1:=bCell hb2 HC.o.2
   have HB2:=Hm (bUA hb2)
   have HO2:=Hm (own_below HO.o HB2.o)
   have hws2:=HB2.o.size
   clear hb2 x0 x1
   cases r with
   |false =>
    go_wp2_with fail
    go_roundw
    case rel=>exact⟨j+1,by omega,by go_num,bT HB.o HB2.o,by rw[HF.o];simpa using HO2.o⟩
    case measure=>simp[intOf];omega
   |true =>
    go_wp2_with (first
     |(at_builtin;refine app iPair Tryz.underlying117 rfl (.tmp 19) (.tmp 21) rfl rfl (own_below HO2.o (bA (bR w2) _)) (show w.heap.size≤(w2.alloc _).heap.size by simp;omega) (A:=some ⟨w2.heap.size,0,none⟩) (m:=1) (c:=1) rfl (row_new _ _ _ _) rfl (by simp[Value.oneCell']) (by have:=H6.o;have:=HLj.o;omega) ?_;intro v' w' ho' hg))
    have HO3:Hd (OwnP w' w.heap.size v' ((l.take (j+1)).filter st)):=⟨by
     rw[HF.o]
     simpa [OwnP,flat2_app,flat2,pairCells] using ho'⟩
    have HB3:=Hm (bG (bA (bT HB.o HB2.o) _) hg (λk hk=>(HO2.o.lt k hk).1))
    clear ho' hg
    go_wp2_with fail
    go_roundw
    case rel=>exact⟨j+1,by omega,by go_num,HB3.o,HO3.o⟩
    case measure=>simp[intOf];omega
  ·obtain rfl:j=l.length:=by omega
   rw[List.take_length] at HO
   have HLl:Hd ((l.filter st).length≤l.length):=⟨List.length_filter_le _ _⟩
   have HV2':=Hm (HV2.o.stay (Stays.below HB.o))
   have HW:Hd (∀ p∈l.filter st++more,WfP p):=⟨λp hp=>by
    rcases List.mem_append.1 hp with hp|hp
    ·exact sk_pairs_wf HV.o p (List.mem_filter.1 hp).1
    ·exact sk_pairs_wf HV2.o p hp⟩
   go_wp2_with (first
     |(at_builtin;refine app iPair Tryz.underlying117 rfl (.tmp 24) (.tmp 25) rfl rfl HO.o hws (A:=A2) (m:=more.length) (c:=c2) rfl (sk_row HV2'.o) (flat2_len _) (flat2_one _) (by have:=H6.o;have:=HLl.o;omega) ?_;intro v8 w8 ho8 hg8)
     )
   have HO8:Hd (OwnP w8 w.heap.size v8 (l.filter st++more)):=⟨by simpa [OwnP,flat2_app] using ho8⟩
   have HB8:=Hm (bG HB.o hg8 (λk hk=>(HO.o.lt k hk).1))
   have HNe:=Hm (sort_own HO8.o (by have:=H6.o;have:=HLl.o;simp only[List.length_append];omega))
   clear ho8 hg8
   generalize l.filter st++more=l8 at *
   refine HNe.o.mono ?_
   rintro e w9 ⟨rfl,l9,hp9,hs9,ho9,hg9⟩
   have hl9:=hp9.length_eq
   have HD9:=Hm (strict_of hs9 (hp9.nodup_iff.2 HN.o))
   have HW9:Hd (∀ p∈l9,WfP p):=⟨λp hp=>HW.o p (hp9.mem_iff.1 hp)⟩
   have HB9:=Hm (bG HB8.o hg9 (λk hk=>(HO8.o.lt k hk).1))
   have HO9:=Hm ho9
   have HP9:=Hm hp9
   have HCo:=Hm (compact_any l9 HD9.o _ _ w9 (own_sk ho9 HW9.o))
   clear hp9 hs9 ho9 hg9
   go_wp2_with fail
   refine HCo.o.mono ?_
   rintro e w10 ⟨rfl,n,rfl⟩
   go_wp2
   go_ret
   exact⟨_,l9,rfl,⟨bN HB9.o n,(own_sk HO9.o HW9.o).stay (Stays.drewN _ _ _)⟩,HD9.o,HP9.o⟩
end Go.Proofs.YtjkgligohegaeaaGreatDoor
