/- Lemmas of the row. -/
import Derived.BigQuiet
import Derived.Test.YtjkgligohegaeaaGreatDoorN03
set_option linter.all false
set_option maxRecDepth 20000
set_option maxHeartbeats 12800000
namespace Go.Proofs.YtjkgligohegaeaaGreatDoor
open Go.RowKit
def givesB (k:Int):Bool:=k == 1 || k == 2 || k == 3 || k == 4 || k == 6 || k == 8
def givesD (k d:Int):Int:=if givesB k then d else 0
def lastB (k:Int):Bool:=k == 2 || k == 3
theorem kinds (k:Int):k=1∨k=2∨k=3∨k=4∨k=5∨k=6∨k=7∨k=8∨((k == 1)=false∧(k == 2)=false∧(k == 3)=false∧(k == 4)=false∧(k == 5)=false∧(k == 6)=false∧(k == 7)=false∧(k == 8)=false):=by
 simp only[beq_eq_false_iff_ne]
 omega
theorem gives_any (k op d a b n:Int) (A:Option Addr) (l c:Nat) (w:World) :
  Calls Tryz.prog 156 #[.agg #[.int .u8 k,.int .u8 op,.int .i64 d,.int .i64 a,.int .i64 b,.int .i64 n,.slice A l c]] w λe w'=>e=.returned (.tuple #[.int .i64 (givesD k d),.bool (givesB k)])∧Below w.heap.size w w':=by
 obtain rfl|rfl|rfl|rfl|rfl|rfl|rfl|rfl|⟨h1,h2,h3,h4,h5,h6,h7,h8⟩:=kinds k
 all_goals
  go_enter Tryz.func156,Tryz.ntmps156
  go_wp2
  go_ret2
  exact⟨by simp[givesD,givesB, *],bA (bR _) _⟩
theorem last_any (k a t s:Int) (w:World) :
  Calls Tryz.prog 153 #[.agg #[.int .u8 k,.int .i64 a,.int .i64 t,.int .i64 s]] w λe w'=>e=.returned (.tuple #[.int .i64 a,.bool (lastB k)])∧Below w.heap.size w w':=by
 by_cases h2:k=2
 ·subst h2
  go_enter Tryz.func153,Tryz.ntmps153
  go_wp2
  go_quiet (fail)
  go_wp2
  go_ret2
  exact⟨by simp[lastB],bN (bA (bR _) _) _⟩
 ·have h2':(k == 2)=false:=by simp[h2]
  by_cases h3:k=3
  ·subst h3
   go_enter Tryz.func153,Tryz.ntmps153
   go_wp2
   go_quiet (fail)
   go_wp2
   go_ret2
   exact⟨by simp[lastB],bN (bA (bR _) _) _⟩
  ·have h3':(k == 3)=false:=by simp[h3]
   go_enter Tryz.func153,Tryz.ntmps153
   go_wp2
   go_quiet (fail)
   go_wp2
   go_ret2
   exact⟨by simp[lastB, *],bN (bA (bR _) _) _⟩
def usesL (k a b:Int) (args:List Int):List Int:=if k=2∨k=4∨k=7 then [a] else if k=3∨k=5 then [a,b] else if k=6 then args else []
def insV (i:Ins) (v:Value):Value:=.agg #[.int .u8 i.kind,.int .u8 i.op,.int .i64 i.d,.int .i64 i.a,.int .i64 i.b,.int .i64 i.n,v]
theorem uses_any (k op d a b n:Int) (args:List Int) (A:Option Addr) (c:Nat) (w:World) (hA:Ints w A args) (hl:args.length≤1000000) :
  Calls Tryz.prog 155 #[.agg #[.int .u8 k,.int .u8 op,.int .i64 d,.int .i64 a,.int .i64 b,.int .i64 n,.slice A args.length c]] w λe w'=>Bel w w'∧∃ v,e=.returned v∧OwnI w' w.heap.size v (usesL k a b args):=by
 have HA:=Hm hA
 have HL:=Hm hl
 clear hA hl
 obtain rfl|rfl|rfl|rfl|rfl|rfl|rfl|rfl|⟨h1,h2,h3,h4,h5,h6,h7,h8⟩:=kinds k
 case inr.inr.inr.inr.inr.inl =>
  have HE:=Hm (own_empty (w.alloc (.cells #[.int .u8 6,.int .u8 op,.int .i64 d,.int .i64 a,.int .i64 b,.int .i64 n,.slice A args.length c] 91)) w.heap.size 3 1 (w.heap.size+1) (by simp) (by simp))
  have HR:=Hm (HA.o.below (bA (bA (bR w) (.cells #[.int .u8 6,.int .u8 op,.int .i64 d,.int .i64 a,.int .i64 b,.int .i64 n,.slice A args.length c] 91)) (.cells #[] 3)))
  go_enter Tryz.func155,Tryz.ntmps155
  go_wp2_with (first
   |(at_builtin;refine app0 iInt Tryz.underlying29 rfl _ _ rfl rfl HE.o (by simp;omega) (A:=A) (m:=args.length) (c:=c) rfl HR.o (by simp) (by have:=HL.o;omega) ?_;intro v1 w1 hb1 ho1))
  have HB:=Hm (bUA (bUA hb1))
  have HO:=Hm ho1
  clear hb1 ho1
  go_wp2
  go_ret
  exact⟨HB.o,_,rfl,by simpa [usesL,OwnI] using HO.o⟩
 all_goals
  go_enter Tryz.func155,Tryz.ntmps155
  go_wp2
  go_ret
 ·exact⟨bA (bR _) _,_,rfl,by simpa [usesL,OwnI] using own_none _ _ _ _ _ rfl⟩
 ·refine⟨bA (bA (bR _) _) _,_,rfl,?_⟩
  have:=own_lit (w.alloc (.cells #[.int .u8 2,.int .u8 op,.int .i64 d,.int .i64 a,.int .i64 b,.int .i64 n,.slice A args.length c] 91)) w.heap.size [a] 1 _ rfl (by simp) rfl (by simp[maxLen])
  simpa [usesL,OwnI] using this
 ·refine⟨bA (bA (bR _) _) _,_,rfl,?_⟩
  have:=own_lit (w.alloc (.cells #[.int .u8 3,.int .u8 op,.int .i64 d,.int .i64 a,.int .i64 b,.int .i64 n,.slice A args.length c] 91)) w.heap.size [a,b] 2 _ rfl (by simp) rfl (by simp[maxLen])
  simpa [usesL,OwnI] using this
 ·refine⟨bA (bA (bR _) _) _,_,rfl,?_⟩
  have:=own_lit (w.alloc (.cells #[.int .u8 4,.int .u8 op,.int .i64 d,.int .i64 a,.int .i64 b,.int .i64 n,.slice A args.length c] 91)) w.heap.size [a] 1 _ rfl (by simp) rfl (by simp[maxLen])
  simpa [usesL,OwnI] using this
 ·refine⟨bA (bA (bR _) _) _,_,rfl,?_⟩
  have:=own_lit (w.alloc (.cells #[.int .u8 5,.int .u8 op,.int .i64 d,.int .i64 a,.int .i64 b,.int .i64 n,.slice A args.length c] 91)) w.heap.size [a,b] 2 _ rfl (by simp) rfl (by simp[maxLen])
  simpa [usesL,OwnI] using this
 ·refine⟨bA (bA (bR _) _) _,_,rfl,?_⟩
  have:=own_lit (w.alloc (.cells #[.int .u8 7,.int .u8 op,.int .i64 d,.int .i64 a,.int .i64 b,.int .i64 n,.slice A args.length c] 91)) w.heap.size [a] 1 _ rfl (by simp) rfl (by simp[maxLen])
  simpa [usesL,OwnI] using this
 ·exact⟨bA (bR _) _,_,rfl,by simpa [usesL,OwnI] using own_none _ _ _ _ _ rfl⟩
 ·refine⟨bA (bR _) _,_,rfl,?_⟩
  have:usesL k a b args=[]:=by
   simp only[beq_eq_false_iff_ne] at *
   simp[usesL, *]
  rw[this]
  exact own_none _ _ _ _ _ rfl
theorem plain_1 (d n:Int) (A:Option Addr) (c:Nat) (w:World) :
  Calls Tryz.prog 154 #[.agg #[.int .u8 1,.int .u8 0,.int .i64 d,.int .i64 0,.int .i64 0,.int .i64 n,.slice A 0 c]] w λe w'=>e=.returned (.bool true)∧Bel w w':=by
 go_enter Tryz.func154,Tryz.ntmps154
 go_wp2
 go_region
 go_wp2
 go_ret
 exact⟨rfl,by repeat (first|exact bR _|refine bA ?_ _|refine bN ?_ _|refine bD ?_|refine bC ?_ (by simp) _ _)⟩
theorem plain_2 (d a:Int) (A:Option Addr) (c:Nat) (w:World) :
  Calls Tryz.prog 154 #[.agg #[.int .u8 2,.int .u8 0,.int .i64 d,.int .i64 a,.int .i64 0,.int .i64 0,.slice A 0 c]] w λe w'=>e=.returned (.bool true)∧Bel w w':=by
 go_enter Tryz.func154,Tryz.ntmps154
 go_wp2
 go_region
 go_wp2
 go_ret
 exact⟨rfl,by repeat (first|exact bR _|refine bA ?_ _|refine bN ?_ _|refine bD ?_|refine bC ?_ (by simp) _ _)⟩
theorem plain_3 (op d a b:Int) (A:Option Addr) (c:Nat) (w:World) :
  Calls Tryz.prog 154 #[.agg #[.int .u8 3,.int .u8 op,.int .i64 d,.int .i64 a,.int .i64 b,.int .i64 0,.slice A 0 c]] w λe w'=>e=.returned (.bool true)∧Bel w w':=by
 go_enter Tryz.func154,Tryz.ntmps154
 go_wp2
 refine rgn [.rd 0,.rd 1,.rd 2,.rd 3,.rd 4,.rd 5,.rd 6,.rd 7,.rd 8,.hv 9 [2,3,4,5,6,7],.rd 10,.hv 11 [4,5,6,7],.rd 12,.hv 13 [6,7],.rd 14,.hv 15 []] (n:=100) rfl ?_
 iterate 9 (refine line_rd rfl (λK hK=>?_);go_simp;refine hK _ ?_;clear hK K)
 refine line_hv rfl ?_
 go_wp2_with fail
 refine⟨?_,?_⟩
 ·simp only[Again,slotOf]
  go_simp
 iterate 1 (refine line_rd rfl (λK hK=>?_);go_simp;refine hK _ ?_;clear hK K)
 refine line_hv rfl ?_
 go_wp2_with fail
 refine⟨?_,?_⟩
 ·simp only[Again,slotOf]
  go_simp
 iterate 1 (refine line_rd rfl (λK hK=>?_);go_simp;refine hK _ ?_;clear hK K)
 refine line_hv rfl ?_
 go_wp2_with fail
 refine⟨?_,?_⟩
 ·simp only[Again,slotOf]
  go_simp
 iterate 1 (refine line_rd rfl (λK hK=>?_);go_simp;refine hK _ ?_;clear hK K)
 refine line_hv rfl ?_
 go_wp2_with fail
 refine⟨?_,?_⟩
 ·exact trivial
 unfold Line
 go_wp2
 go_ret
 exact⟨rfl,by repeat (first|exact bR _|refine bA ?_ _|refine bN ?_ _|refine bD ?_|refine bC ?_ (by simp) _ _)⟩
theorem plain_4 (d a:Int) (A:Option Addr) (c:Nat) (w:World) :
  Calls Tryz.prog 154 #[.agg #[.int .u8 4,.int .u8 0,.int .i64 d,.int .i64 a,.int .i64 0,.int .i64 0,.slice A 0 c]] w λe w'=>e=.returned (.bool true)∧Bel w w':=by
 go_enter Tryz.func154,Tryz.ntmps154
 go_wp2
 go_region
 go_wp2
 go_ret
 exact⟨rfl,by repeat (first|exact bR _|refine bA ?_ _|refine bN ?_ _|refine bD ?_|refine bC ?_ (by simp) _ _)⟩
theorem plain_5 (a b:Int) (A:Option Addr) (c:Nat) (w:World) :
  Calls Tryz.prog 154 #[.agg #[.int .u8 5,.int .u8 0,.int .i64 0,.int .i64 a,.int .i64 b,.int .i64 0,.slice A 0 c]] w λe w'=>e=.returned (.bool true)∧Bel w w':=by
 go_enter Tryz.func154,Tryz.ntmps154
 go_wp2
 go_region
 go_wp2
 go_ret
 exact⟨rfl,by repeat (first|exact bR _|refine bA ?_ _|refine bN ?_ _|refine bD ?_|refine bC ?_ (by simp) _ _)⟩
theorem plain_6 (d n:Int) (l:Nat) (A:Option Addr) (c:Nat) (w:World) :
  Calls Tryz.prog 154 #[.agg #[.int .u8 6,.int .u8 0,.int .i64 d,.int .i64 0,.int .i64 0,.int .i64 n,.slice A l c]] w λe w'=>e=.returned (.bool true)∧Bel w w':=by
 by_cases hl:l=0
 ·subst hl
  go_enter Tryz.func154,Tryz.ntmps154
  go_wp2
  go_region
  go_wp2
  go_ret
  exact⟨rfl,by repeat (first|exact bR _|refine bA ?_ _|refine bN ?_ _|refine bD ?_|refine bC ?_ (by simp) _ _)⟩
 ·have hl':((l:Int) == 0)=false:=by simp[hl]
  go_enter Tryz.func154,Tryz.ntmps154
  go_wp2
  go_region
  go_wp2
  go_ret
  exact⟨rfl,by repeat (first|exact bR _|refine bA ?_ _|refine bN ?_ _|refine bD ?_|refine bC ?_ (by simp) _ _)⟩
structure InsOk (v:Int) (i:Ins):Prop where
 k1:1≤i.kind
 k6:i.kind≤6
 op3:i.kind=3→1≤i.op∧i.op≤7
 op0:i.kind≠3→i.op=0
 d0:i.kind=5→i.d=0
 a0:i.kind=1∨i.kind=6→i.a=0
 b0:i.kind≠3→i.kind≠5→i.b=0
 n0:i.kind≠1→i.kind≠6→i.n=0
 args0:i.kind≠6→i.args=[]
 args3:i.args.length≤3
 uses:∀ u∈usesL i.kind i.a i.b i.args,0≤u∧u < v
 gives:givesB i.kind=true→0≤i.d∧i.d < v
theorem plain_ok {v:Int} (i:Ins) (h:InsOk v i) (A:Option Addr) (c:Nat) (w:World) :
  Calls Tryz.prog 154 #[insV i (.slice A i.args.length c)] w λe w'=>e=.returned (.bool true)∧Bel w w':=by
 obtain⟨k,op,d,a,b,n,args⟩:=i
 obtain⟨k1,k6,op3,op0,d0,a0,b0,n0,args0,args3,-,-⟩:=h
 simp only[insV] at *
 have:k=1∨k=2∨k=3∨k=4∨k=5∨k=6:=by omega
 rcases this with rfl|rfl|rfl|rfl|rfl|rfl
 ·obtain rfl:=op0 (by omega);obtain rfl:=a0 (by omega);obtain rfl:=b0 (by omega) (by omega);obtain rfl:=args0 (by omega)
  exact plain_1 d n A c w
 ·obtain rfl:=op0 (by omega);obtain rfl:=n0 (by omega) (by omega);obtain rfl:=b0 (by omega) (by omega);obtain rfl:=args0 (by omega)
  exact plain_2 d a A c w
 ·obtain rfl:=n0 (by omega) (by omega);obtain rfl:=args0 (by omega)
  exact plain_3 op d a b A c w
 ·obtain rfl:=op0 (by omega);obtain rfl:=n0 (by omega) (by omega);obtain rfl:=b0 (by omega) (by omega);obtain rfl:=args0 (by omega)
  exact plain_4 d a A c w
 ·obtain rfl:=op0 (by omega);obtain rfl:=n0 (by omega) (by omega);obtain rfl:=d0 (by omega);obtain rfl:=args0 (by omega)
  exact plain_5 a b A c w
 ·obtain rfl:=op0 (by omega);obtain rfl:=a0 (by omega);obtain rfl:=b0 (by omega) (by omega)
  exact plain_6 d n args.length A c w
def allOf (i:Ins):List Int:=usesL i.kind i.a i.b i.args++if givesB i.kind then [i.d] else []
theorem allOf_ok {v:Int} {i:Ins} (h:InsOk v i):∀ u∈allOf i,0≤u∧u < v:=by
 intro u hu
 unfold allOf at hu
 rcases List.mem_append.1 hu with hu|hu
 ·exact h.uses u hu
 ·split at hu
  ·simp only[List.mem_singleton] at hu
   subst hu
   exact h.gives (by assumption)
  ·cases hu
theorem uses_le {v:Int} {i:Ins} (h:InsOk v i):(usesL i.kind i.a i.b i.args).length≤3:=by
 unfold usesL
 have:=h.args3
 repeat' split
 all_goals first|(simp;done)|simpa using this
theorem of_ok {v:Int} (i:Ins) (h:InsOk v i) (A:Option Addr) (c:Nat) (w:World) (hA:Ints w A i.args) :
  Calls Tryz.prog 127 #[insV i (.slice A i.args.length c),.int .i64 v] w λe w'=>e=.returned (.int .i64 0)∧Bel w w':=by
 have HP:=Hm (λw'=>plain_ok i h A c w')
 have HU:=Hm (λ(w':World) (hb:Bel w w')=>uses_any i.kind i.op i.d i.a i.b i.n i.args A c w' (hA.below hb) (by have:=h.args3;omega))
 have HG:=Hm (λ(w':World)=>gives_any i.kind i.op i.d i.a i.b i.n A i.args.length c w')
 have hall:=allOf_ok h
 have hul:=uses_le h
 have k1:=h.k1
 have k6:=h.k6
 have hl3:¬(3:Int) < (i.args.length:Int):=by have:=h.args3;omega
 have hop:¬i.kind=3∨(i.kind=3∧1≤i.op∧i.op≤7):=by
  by_cases h3:i.kind=3
  ·exact .inr ⟨h3,h.op3 h3⟩
  ·exact .inl h3
 have hpos:givesB i.kind=false→0 < (usesL i.kind i.a i.b i.args).length:=by
  intro hg
  have:i.kind=5:=by
   have h1:=h.k1
   have h2:=h.k6
   simp only[givesB,Bool.or_eq_false_iff,beq_eq_false_iff_ne] at hg
   omega
  simp[usesL,this]
 clear h hA
 obtain⟨k,op,d,a,b,n,args⟩:=i
 unfold insV at HP⊢
 unfold allOf at hall
 simp only at *
 obtain⟨L,hL⟩:∃ L,usesL k a b args=L:=⟨_,rfl⟩
 obtain⟨D,hD⟩:∃ D,givesD k d=D:=⟨_,rfl⟩
 have hD':givesB k=true→D=d:=λhg=>by rw[←hD];simp[givesD,hg]
 rw[hL] at HU hall hul hpos
 rw[hD] at HG
 obtain⟨g,hg⟩:∃ g,givesB k=g:=⟨_,rfl⟩
 rw[hg] at HG hall hD' hpos
 clear hL hD hg
 have HD:=Hm hD'
 have HAll:=Hm hall
 have HPos:=Hm hpos
 clear hD' hall hpos
 rcases hop with h3|⟨h3,ho1,ho7⟩
 ·have h3':(k == 3)=false:=by simp[h3]
  clear h3
  go_enter Tryz.func127,Tryz.ntmps127
  go_wp2_with fail
  refine(HP.o _).mono ?_
  rintro e w1 ⟨rfl,hb1⟩
  have HB1:=Hm (bT (bA (bR w) _) hb1)
  obtain⟨hc1,hf1⟩:=bcell hb1
  have hz1:w.heap.size < w1.heap.size:=by have:=hb1.size;simp at this;omega
  clear hb1
  go_wp2_with fail
  refine(HU.o _ HB1.o).mono ?_
  rintro e w2 ⟨hb2,v2,rfl,ho2⟩
  have HB2:=Hm (bT HB1.o hb2)
  have HO2:=Hm (own_base ho2 HB1.o.size)
  obtain⟨hc2,hf2⟩:=bcell hb2
  have hz2:w.heap.size < w2.heap.size:=by have:=hb2.size;omega
  clear hb2 ho2
  go_wp2_with fail
  refine(HG.o _).mono ?_
  rintro e w3 ⟨rfl,hb3⟩
  have HB3:=Hm (bT HB2.o hb3)
  have HO3:=Hm (own_below HO2.o hb3)
  clear hb3 hc1 hf1 hc2 hf2 HO2
  cases g
  ·simp only[Bool.false_eq_true,if_false,List.append_nil] at HAll
   have hpos:0 < L.length:=HPos.o rfl
   obtain⟨g2,c2,rfl,hg2⟩:=own_form HO3.o hpos
   have hrow:Row w3 (some ⟨g2,0,none⟩) (L.map (Value.int .i64)):=by
    obtain⟨A',c',hv,hrow,_⟩:=own_row HO3.o
    simp only[Value.slice.injEq] at hv
    obtain⟨rfl,_,rfl⟩:=hv
    exact hrow
   clear HO3
   go_wp2_with fail
   go_loop [58] (λi=>∃ j:Nat,j≤L.length∧i=.int .i64 j) (λi=>L.length-(intOf i).toNat)
   case atStart=>exact⟨0,Nat.zero_le _,rfl⟩
   case round =>
    obtain⟨j,hj,rfl⟩:=hrel
    by_cases hlt:j < L.length
    ·obtain⟨u,hu,hcell⟩:∃ u,(0≤u∧u < v)∧w3.cell? ⟨g2,j,none⟩=some (.int .i64 u):=by
      obtain⟨b',o',e,hc⟩:=hrow j (by simpa using hlt)
      simp only[Option.some.injEq,Addr.mk.injEq,and_true] at e
      obtain⟨rfl,rfl⟩:=e
      rw[Nat.zero_add] at hc
      exact⟨(L)[j],HAll.o _ (List.getElem_mem _),by rw[hc];simp⟩
     obtain⟨hu0,huv⟩:=hu
     clear hj
     go_wp2
     go_round
     case rel=>exact⟨j+1,by omega,by go_num⟩
     case measure=>simp[intOf];omega
    ·obtain rfl:j=L.length:=by omega
     go_wp2
     go_ret
     exact⟨rfl,HB3.o⟩
  ·obtain rfl:=HD.o rfl
   simp only[if_true] at HAll
   have HB4:=Hm (bA HB3.o (.cells #[.int .i64 D] 3))
   have hz3:w.heap.size≤w3.heap.size:=HB3.o.size
   go_wp2_with (first
    |(at_builtin;refine app iInt Tryz.underlying29 rfl _ _ rfl rfl (HO3.o.alloc _) (by simp;omega) (A:=some ⟨w3.heap.size,0,none⟩) (m:=1) (c:=1) (news:=[.int .i64 D]) rfl (row_new _ _ _ _) (by simp) (by simp[Value.oneCell']) (by omega) ?_;intro v4 w4 ho4 hg4))
   obtain⟨M,hM⟩:∃ M,M=L++[D]:=⟨_,rfl⟩
   have HO4:Hd (OwnI w4 w.heap.size v4 M):=⟨by rw[hM];simpa [OwnI] using ho4⟩
   have hln:M.length≤4:=by rw[hM];simp;omega
   have hl0:0 < M.length:=by rw[hM];simp
   rw[←hM] at HAll
   clear hM
   have HB5:=Hm (bG HB4.o hg4 (λq hq=>(HO3.o.lt q hq).1))
   clear ho4 hg4 HO3 HB4
   obtain⟨g4,c4,rfl,hg4⟩:=own_form HO4.o hl0
   have hrow:Row w4 (some ⟨g4,0,none⟩) (M.map (Value.int .i64)):=by
    obtain⟨A',c',hv,hrow,_⟩:=own_row HO4.o
    simp only[Value.slice.injEq] at hv
    obtain⟨rfl,_,rfl⟩:=hv
    exact hrow
   clear HO4
   go_wp2_with fail
   go_simp
   go_wp2_with fail
   go_loop [58] (λi=>∃ j:Nat,j≤M.length∧i=.int .i64 j) (λi=>M.length-(intOf i).toNat)
   case atStart=>exact⟨0,Nat.zero_le _,rfl⟩
   case round =>
    obtain⟨j,hj,rfl⟩:=hrel
    by_cases hlt:j < M.length
    ·obtain⟨u,hu,hcell⟩:∃ u,(0≤u∧u < v)∧w4.cell? ⟨g4,j,none⟩=some (.int .i64 u):=by
      obtain⟨b',o',e,hc⟩:=hrow j (by simpa using hlt)
      simp only[Option.some.injEq,Addr.mk.injEq,and_true] at e
      obtain⟨rfl,rfl⟩:=e
      rw[Nat.zero_add] at hc
      exact⟨(M)[j],HAll.o _ (List.getElem_mem _),by rw[hc];simp⟩
     obtain⟨hu0,huv⟩:=hu
     clear hj
     go_wp2
     go_round
     case rel=>exact⟨j+1,by omega,by go_num⟩
     case measure=>simp[intOf];omega
    ·obtain rfl:j=M.length:=by omega
     go_wp2
     go_ret
     exact⟨rfl,HB5.o⟩
 ·subst h3
  have ho1':¬op < 1:=by omega
  have ho7':¬7 < op:=by omega
  go_enter Tryz.func127,Tryz.ntmps127
  go_wp2_with fail
  refine(HP.o _).mono ?_
  rintro e w1 ⟨rfl,hb1⟩
  have HB1:=Hm (bT (bA (bR w) _) hb1)
  obtain⟨hc1,hf1⟩:=bcell hb1
  have hz1:w.heap.size < w1.heap.size:=by have:=hb1.size;simp at this;omega
  clear hb1
  go_wp2_with fail
  refine(HU.o _ HB1.o).mono ?_
  rintro e w2 ⟨hb2,v2,rfl,ho2⟩
  have HB2:=Hm (bT HB1.o hb2)
  have HO2:=Hm (own_base ho2 HB1.o.size)
  obtain⟨hc2,hf2⟩:=bcell hb2
  have hz2:w.heap.size < w2.heap.size:=by have:=hb2.size;omega
  clear hb2 ho2
  go_wp2_with fail
  refine(HG.o _).mono ?_
  rintro e w3 ⟨rfl,hb3⟩
  have HB3:=Hm (bT HB2.o hb3)
  have HO3:=Hm (own_below HO2.o hb3)
  clear hb3 hc1 hf1 hc2 hf2 HO2
  cases g
  ·simp only[Bool.false_eq_true,if_false,List.append_nil] at HAll
   have hpos:0 < L.length:=HPos.o rfl
   obtain⟨g2,c2,rfl,hg2⟩:=own_form HO3.o hpos
   have hrow:Row w3 (some ⟨g2,0,none⟩) (L.map (Value.int .i64)):=by
    obtain⟨A',c',hv,hrow,_⟩:=own_row HO3.o
    simp only[Value.slice.injEq] at hv
    obtain⟨rfl,_,rfl⟩:=hv
    exact hrow
   clear HO3
   go_wp2_with fail
   go_loop [58] (λi=>∃ j:Nat,j≤L.length∧i=.int .i64 j) (λi=>L.length-(intOf i).toNat)
   case atStart=>exact⟨0,Nat.zero_le _,rfl⟩
   case round =>
    obtain⟨j,hj,rfl⟩:=hrel
    by_cases hlt:j < L.length
    ·obtain⟨u,hu,hcell⟩:∃ u,(0≤u∧u < v)∧w3.cell? ⟨g2,j,none⟩=some (.int .i64 u):=by
      obtain⟨b',o',e,hc⟩:=hrow j (by simpa using hlt)
      simp only[Option.some.injEq,Addr.mk.injEq,and_true] at e
      obtain⟨rfl,rfl⟩:=e
      rw[Nat.zero_add] at hc
      exact⟨(L)[j],HAll.o _ (List.getElem_mem _),by rw[hc];simp⟩
     obtain⟨hu0,huv⟩:=hu
     clear hj
     go_wp2
     go_round
     case rel=>exact⟨j+1,by omega,by go_num⟩
     case measure=>simp[intOf];omega
    ·obtain rfl:j=L.length:=by omega
     go_wp2
     go_ret
     exact⟨rfl,HB3.o⟩
  ·obtain rfl:=HD.o rfl
   simp only[if_true] at HAll
   have HB4:=Hm (bA HB3.o (.cells #[.int .i64 D] 3))
   have hz3:w.heap.size≤w3.heap.size:=HB3.o.size
   go_wp2_with (first
    |(at_builtin;refine app iInt Tryz.underlying29 rfl _ _ rfl rfl (HO3.o.alloc _) (by simp;omega) (A:=some ⟨w3.heap.size,0,none⟩) (m:=1) (c:=1) (news:=[.int .i64 D]) rfl (row_new _ _ _ _) (by simp) (by simp[Value.oneCell']) (by omega) ?_;intro v4 w4 ho4 hg4))
   obtain⟨M,hM⟩:∃ M,M=L++[D]:=⟨_,rfl⟩
   have HO4:Hd (OwnI w4 w.heap.size v4 M):=⟨by rw[hM];simpa [OwnI] using ho4⟩
   have hln:M.length≤4:=by rw[hM];simp;omega
   have hl0:0 < M.length:=by rw[hM];simp
   rw[←hM] at HAll
   clear hM
   have HB5:=Hm (bG HB4.o hg4 (λq hq=>(HO3.o.lt q hq).1))
   clear ho4 hg4 HO3 HB4
   obtain⟨g4,c4,rfl,hg4⟩:=own_form HO4.o hl0
   have hrow:Row w4 (some ⟨g4,0,none⟩) (M.map (Value.int .i64)):=by
    obtain⟨A',c',hv,hrow,_⟩:=own_row HO4.o
    simp only[Value.slice.injEq] at hv
    obtain⟨rfl,_,rfl⟩:=hv
    exact hrow
   clear HO4
   go_wp2_with fail
   go_simp
   go_wp2_with fail
   go_loop [58] (λi=>∃ j:Nat,j≤M.length∧i=.int .i64 j) (λi=>M.length-(intOf i).toNat)
   case atStart=>exact⟨0,Nat.zero_le _,rfl⟩
   case round =>
    obtain⟨j,hj,rfl⟩:=hrel
    by_cases hlt:j < M.length
    ·obtain⟨u,hu,hcell⟩:∃ u,(0≤u∧u < v)∧w4.cell? ⟨g4,j,none⟩=some (.int .i64 u):=by
      obtain⟨b',o',e,hc⟩:=hrow j (by simpa using hlt)
      simp only[Option.some.injEq,Addr.mk.injEq,and_true] at e
      obtain⟨rfl,rfl⟩:=e
      rw[Nat.zero_add] at hc
      exact⟨(M)[j],HAll.o _ (List.getElem_mem _),by rw[hc];simp⟩
     obtain⟨hu0,huv⟩:=hu
     clear hj
     go_wp2
     go_round
     case rel=>exact⟨j+1,by omega,by go_num⟩
     case measure=>simp[intOf];omega
    ·obtain rfl:j=M.length:=by omega
     go_wp2
     go_ret
     exact⟨rfl,HB5.o⟩
def EndOk (v n:Int) (e:End):Prop :=
 (e.kind=1∧e.a=0∧0≤e.to_∧e.to_ < n∧e.else_=0)∨(e.kind=2∧0≤e.a∧e.a < v∧0≤e.to_∧e.to_ < n∧0≤e.else_∧e.else_ < n)∨(e.kind=3∧0≤e.a∧e.a < v∧e.to_=0∧e.else_=0)
def endV (e:End):Value:=.agg #[.int .u8 e.kind,.int .i64 e.a,.int .i64 e.to_,.int .i64 e.else_]
theorem ends_ok (e:End) (v n:Int) (h:EndOk v n e) (w:World):Calls Tryz.prog 126 #[endV e,.int .i64 v,.int .i64 n] w λe w'=>e=.returned (.int .i64 0)∧Bel w w':=by
 obtain⟨k,a,t,s⟩:=e
 unfold endV
 unfold EndOk at h
 simp only at *
 obtain⟨rfl,rfl,h1,h2,rfl⟩|⟨rfl,h1,h2,h3,h4,h5,h6⟩|⟨rfl,h1,h2,rfl,rfl⟩:=h
 ·have HL:=Hm (λw'=>last_any 1 0 t 0 w')
  go_enter Tryz.func126,Tryz.ntmps126
  go_wp2_with fail
  refine(HL.o _).mono ?_
  rintro e w1 ⟨rfl,hb1⟩
  have HB1:=Hm (bT (bA (bR w) _) hb1)
  obtain⟨hc1,hf1⟩:=bcell hb1
  simp only[show lastB 1=false from rfl]
  clear hb1
  go_wp2
  go_ret
  exact⟨rfl,HB1.o⟩
 ·have HL:=Hm (λw'=>last_any 2 a t s w')
  go_enter Tryz.func126,Tryz.ntmps126
  go_wp2_with fail
  refine(HL.o _).mono ?_
  rintro e w1 ⟨rfl,hb1⟩
  have HB1:=Hm (bT (bA (bR w) _) hb1)
  obtain⟨hc1,hf1⟩:=bcell hb1
  simp only[show lastB 2=true from rfl]
  clear hb1
  go_wp2
  go_ret
  exact⟨rfl,HB1.o⟩
 ·have HL:=Hm (λw'=>last_any 3 a 0 0 w')
  go_enter Tryz.func126,Tryz.ntmps126
  go_wp2_with fail
  refine(HL.o _).mono ?_
  rintro e w1 ⟨rfl,hb1⟩
  have HB1:=Hm (bT (bA (bR w) _) hb1)
  obtain⟨hc1,hf1⟩:=bcell hb1
  simp only[show lastB 3=true from rfl]
  clear hb1
  go_wp2
  go_ret
  exact⟨rfl,HB1.o⟩
structure BlockOk (v n:Int) (most:Nat) (ok:Int→Ins→Prop) (b:Block):Prop where
 len:b.ins.length≤most
 ins:∀ i∈b.ins,ok v i
 fin:EndOk v n b.fin
structure FuncOk (f:Func):Prop where
 p0:0≤f.params
 p4:f.params≤4
 pv:f.params≤f.vregs
 v32:f.vregs≤32
 n1:1≤f.blocks.length
 n16:f.blocks.length≤16
 blocks:∀ b∈f.blocks,BlockOk f.vregs f.blocks.length 32 InsOk b
section
variable {w:World} {ok:Nat→Prop}
theorem sk_block {l:List Block} {v:Value} (h:Kd.SK kBlock w ok l v) (j:Nat) (hj:j < l.length):∃ b off c v1,v=.slice (some ⟨b,off,none⟩) l.length c∧ok b∧l[j].fin.Fits∧Kd.SK kIns w ok l[j].ins v1 ∧
  w.cell? ⟨b,off+j*5,none⟩=some v1∧w.cell? ⟨b,off+j*5+1,none⟩=some (.int .u8 l[j].fin.kind)∧w.cell? ⟨b,off+j*5+2,none⟩=some (.int .i64 l[j].fin.a) ∧
  w.cell? ⟨b,off+j*5+3,none⟩=some (.int .i64 l[j].fin.to_)∧w.cell? ⟨b,off+j*5+4,none⟩=some (.int .i64 l[j].fin.else_):=by
 obtain⟨b,off,c,cs,rfl,_,ho,_,hk,hc⟩:=h.at_ j hj
 obtain⟨f,v1,rfl,hs⟩:=kBlock_open hk
 have h0:=hc 0 (by decide)
 have h1:=hc 1 (by decide)
 have h2:=hc 2 (by decide)
 have h3:=hc 3 (by decide)
 have h4:=hc 4 (by decide)
 exact⟨b,off,c,v1,rfl,ho,f,hs,h0,h1,h2,h3,h4⟩
theorem sk_ins {l:List Ins} {v:Value} (h:Kd.SK kIns w ok l v) (j:Nat) (hj:j < l.length):∃ b off c v1,v=.slice (some ⟨b,off,none⟩) l.length c∧ok b∧l[j].Fits∧Kd.SK kI w ok l[j].args v1 ∧
  w.cell? ⟨b,off+j*7,none⟩=some (.int .u8 l[j].kind)∧w.cell? ⟨b,off+j*7+1,none⟩=some (.int .u8 l[j].op)∧w.cell? ⟨b,off+j*7+2,none⟩=some (.int .i64 l[j].d) ∧
  w.cell? ⟨b,off+j*7+3,none⟩=some (.int .i64 l[j].a)∧w.cell? ⟨b,off+j*7+4,none⟩=some (.int .i64 l[j].b)∧w.cell? ⟨b,off+j*7+5,none⟩=some (.int .i64 l[j].n) ∧
  w.cell? ⟨b,off+j*7+6,none⟩=some v1:=by
 obtain⟨b,off,c,cs,rfl,_,ho,_,hk,hc⟩:=h.at_ j hj
 obtain⟨f,v1,rfl,hs⟩:=kIns_open hk
 have h0:=hc 0 (by decide)
 have h1:=hc 1 (by decide)
 have h2:=hc 2 (by decide)
 have h3:=hc 3 (by decide)
 have h4:=hc 4 (by decide)
 have h5:=hc 5 (by decide)
 have h6:=hc 6 (by decide)
 exact⟨b,off,c,v1,rfl,ho,f,hs,h0,h1,h2,h3,h4,h5,h6⟩
theorem sk_form {α:Type} {k:Kd α} {l:List α} {v:Value} (h:Kd.SK k w ok l v):∃ A c,v=.slice A l.length c∧l.length≤c∧c≤maxLen:=by
 obtain⟨A,c,vs,rfl,h2,h3,_⟩:=h
 exact⟨A,c,rfl,h2,h3⟩
theorem sk_bel {α:Type} {k:Kd α} {l:List α} {v:Value} {w1:World} (h:Kd.SK k w ok l v) (hb:Bel w w1):Kd.SK k w1 ok l v:=h.stay (Stays.below hb)
end
theorem check_ok (f:Func) (h:FuncOk f) (ok:Nat→Prop) (v:Value) (w:World) (hv:Kd.SK kBlock w ok f.blocks v) :
  Calls Tryz.prog 92 #[.agg #[.int .i64 f.params,.int .i64 f.vregs,v]] w λe w'=>e=.returned (.agg #[.int .i64 0,.int .i64 0,.int .i64 0])∧Bel w w':=by
 have HV:=Hm hv
 have HB:=Hm h.blocks
 obtain⟨params,vregs,blocks⟩:=f
 obtain⟨p0,p4,pv,v32,n1,n16,-⟩:=h
 simp only at *
 obtain⟨A,c,rfl,hcap,-⟩:=sk_form hv
 clear hv
 have hn1:¬(blocks.length:Int) < 1:=by omega
 have hn16:¬16 < (blocks.length:Int):=by omega
 go_enter Tryz.func92,Tryz.ntmps92
 go_wp2_with fail
 obtain⟨w0,hw0⟩:∃ w0,w0=(w.alloc (.cells #[.int .i64 params,.int .i64 vregs,.slice A blocks.length c] 99)).alloc (.cells #[.int .i64 0,.int .i64 0,.int .i64 0] 193):=⟨_,rfl⟩
 have HB0:Hd (Bel w w0):=⟨by rw[hw0];exact bA (bA (bR w) _) _⟩
 have a1:w0.cell? ⟨w.heap.size,1,none⟩=some (.int .i64 vregs):=by rw[hw0];go_simp
 have a2:w0.cell? ⟨w.heap.size,2,none⟩=some (.slice A blocks.length c):=by rw[hw0];go_simp
 have r0:w0.cell? ⟨w.heap.size+1,0,none⟩=some (.int .i64 0):=by rw[hw0];go_simp
 have r1:w0.cell? ⟨w.heap.size+1,1,none⟩=some (.int .i64 0):=by rw[hw0];go_simp
 have r2:w0.cell? ⟨w.heap.size+1,2,none⟩=some (.int .i64 0):=by rw[hw0];go_simp
 have hz0:w.heap.size+1 < w0.heap.size:=by rw[hw0];simp
 have f0:w0.frozen? ⟨w.heap.size+1,0,none⟩=false:=by rw[hw0];go_simp
 have f1:w0.frozen? ⟨w.heap.size+1,1,none⟩=false:=by rw[hw0];go_simp
 have f2:w0.frozen? ⟨w.heap.size+1,2,none⟩=false:=by rw[hw0];go_simp
 rw[←hw0]
 clear hw0
 have HA0:=Hm (And.intro a1 a2)
 have HF0:=Hm (And.intro f0 (And.intro f1 f2))
 have HR0:=Hm (And.intro r0 (And.intro r1 r2))
 clear a1 a2 r0 r1 r2 f0 f1 f2
 go_loopw [45] (λi wr=>∃ j:Nat,j≤blocks.length∧i=.int .i64 j∧Bel w0 wr) (λi _=>blocks.length-(intOf i).toNat)
 case atStart=>exact⟨0,Nat.zero_le _,rfl,bR _⟩
 case round =>
  obtain⟨j,hj,rfl,hb⟩:=hrel
  have HBr:=Hm hb
  clear hb
  have hzr:w.heap.size+1 < wr.heap.size:=by have:=HBr.o.size;omega
  have hzq:w.heap.size < wr.heap.size:=by omega
  by_cases hlt:j < blocks.length
  ·obtain⟨blk,off,c',v1,e,-,-,hsk,x0,x1,x2,x3,x4⟩:=sk_block (sk_bel HV.o (bT HB0.o HBr.o)) j hlt
   simp only[Value.slice.injEq] at e
   obtain⟨rfl,-,rfl⟩:=e
   have hx:=HB.o _ (List.getElem_mem hlt)
   generalize blocks[j]=x at *
   obtain⟨A1,c1,rfl,-,-⟩:=sk_form hsk
   have HX:=Hm hx
   have HSk:=Hm hsk
   have hx32:¬32 < (x.ins.length:Int):=by have:=hx.len;omega
   have hx31:x.ins.length≤32:=hx.len
   clear hx hsk
   have a1:=bCell HBr.o HA0.o.1
   have a2:=bCell HBr.o HA0.o.2
   go_wp2_with fail
   obtain⟨w1,hw1⟩:∃ w1,w1=wr.alloc (.cells #[.slice A1 x.ins.length c1,.int .u8 x.fin.kind,.int .i64 x.fin.a,.int .i64 x.fin.to_,.int .i64 x.fin.else_] 97):=⟨_,rfl⟩
   have HB1:Hd (Bel wr w1):=⟨by rw[hw1];exact bA (bR _) _⟩
   have hz1:wr.heap.size < w1.heap.size:=by rw[hw1];simp
   have y0:w1.cell? ⟨wr.heap.size,0,none⟩=some (.slice A1 x.ins.length c1):=by rw[hw1];go_simp
   have y1:w1.cell? ⟨wr.heap.size,1,none⟩=some (.int .u8 x.fin.kind):=by rw[hw1];go_simp
   have y2:w1.cell? ⟨wr.heap.size,2,none⟩=some (.int .i64 x.fin.a):=by rw[hw1];go_simp
   have y3:w1.cell? ⟨wr.heap.size,3,none⟩=some (.int .i64 x.fin.to_):=by rw[hw1];go_simp
   have y4:w1.cell? ⟨wr.heap.size,4,none⟩=some (.int .i64 x.fin.else_):=by rw[hw1];go_simp
   have HY:=Hm (And.intro y0 (And.intro y1 (And.intro y2 (And.intro y3 y4))))
   rw[←hw1]
   clear hw1 y0 y1 y2 y3 y4 x0 x1 x2 x3 x4
   have HA1:=Hm (And.intro (bCell HB1.o a1) (bCell HB1.o a2))
   clear a1 a2
   obtain⟨wo,rfl⟩:∃ wo:World,wo=wr:=⟨_,rfl⟩
   go_loopw [59] (λi wr=>∃ k:Nat,k≤x.ins.length∧i=.int .i64 k∧Bel w1 wr) (λi _=>x.ins.length-(intOf i).toNat)
   case atStart=>exact⟨0,Nat.zero_le _,rfl,bR _⟩
   case round =>
    obtain⟨k,hk,rfl,hb⟩:=hrel
    have HBi:=Hm hb
    clear hb
    have hzi:w.heap.size+1 < wr.heap.size:=by have:=HBi.o.size;have:=HB1.o.size;omega
    have hzj:w.heap.size < wr.heap.size:=by omega
    have hzo:wo.heap.size < wr.heap.size:=by have:=HBi.o.size;omega
    have a1:=bCell HBi.o HA1.o.1
    have a2:=bCell HBi.o HA1.o.2
    by_cases hkt:k < x.ins.length
    ·obtain⟨blk2,off2,c2,v2,e,-,-,hsk2,z0,z1,z2,z3,z4,z5,z6⟩:=sk_ins (sk_bel HSk.o (bT HB1.o HBi.o)) k hkt
     simp only[Value.slice.injEq] at e
     obtain⟨rfl,-,rfl⟩:=e
     have hy:=HX.o.ins _ (List.getElem_mem hkt)
     generalize x.ins[k]=y at *
     obtain⟨A2,c2,rfl,-,-,hI2,-,-⟩:=ski hsk2
     have HOf:=Hm (λ(w':World) (hb:Bel wr w')=>of_ok y hy A2 c2 w' (hI2.below hb))
     clear hy hsk2 hI2
     unfold insV at HOf
     go_wp2_with fail
     refine(HOf.o _ (bA (bR _) _)).mono ?_
     rintro e w2 ⟨rfl,hb2⟩
     have HB2:=Hm (bT HBi.o (bUA hb2))
     clear hb2 z0 z1 z2 z3 z4 z5 z6 a1 a2
     go_wp2_with fail
     go_roundw
     case rel=>exact⟨k+1,by omega,by go_num,HB2.o⟩
     case measure=>simp[intOf];omega
    ·have y1:=bCell HBi.o HY.o.2.1
     have y2:=bCell HBi.o HY.o.2.2.1
     have y3:=bCell HBi.o HY.o.2.2.2.1
     have y4:=bCell HBi.o HY.o.2.2.2.2
     have HEnd:=Hm (λ(w':World)=>ends_ok x.fin vregs blocks.length HX.o.fin w')
     unfold endV at HEnd
     go_wp2_with fail
     refine(HEnd.o _).mono ?_
     rintro e w2 ⟨rfl,hb2⟩
     have HB2:=Hm (bT HBr.o (bT HB1.o (bT HBi.o hb2)))
     clear hb2 a1 a2 y1 y2 y3 y4
     go_wp2_with fail
     go_roundw
     case rel=>exact⟨j+1,by omega,by go_num,HB2.o⟩
     case measure=>simp[intOf];omega
  ·have r0:=bCell HBr.o HR0.o.1
   have r1:=bCell HBr.o HR0.o.2.1
   have r2:=bCell HBr.o HR0.o.2.2
   have f0:=bFree HBr.o HR0.o.1 HF0.o.1
   have f1:=bFree HBr.o HR0.o.2.1 HF0.o.2.1
   have f2:=bFree HBr.o HR0.o.2.2 HF0.o.2.2
   go_wp2
   refine bodyPost_ret (v:=.agg #[.int .i64 0,.int .i64 0,.int .i64 0]) (by simp[results,Tryz.results92,go_sem,r0,r1,r2]) rfl ⟨rfl,bC (bC (bC (bT HB0.o HBr.o) (by omega) _ _) (by omega) _ _) (by omega) _ _⟩
def MInsOk (slots regs:Int) (i:Ins):Prop :=
 ((i.kind=7∧0≤i.a∧i.a < regs∧0≤i.d∧i.d < slots∨i.kind=8∧0≤i.d∧i.d < regs∧0≤i.a∧i.a < slots)∧i.op=0∧i.b=0∧i.n=0∧i.args=[])∨InsOk regs i
theorem rowIn_new (w:World) (ok:Nat→Prop) (vs:List Value) (t:TypeId) (p:Nat) (hp:p=w.heap.size) (ho:ok p):RowIn (w.alloc (.cells vs.toArray t)) ok (some ⟨p,0,none⟩) vs:=by
 subst hp
 intro j hj
 obtain⟨b,off,e,hc⟩:=row_new w vs t (0,0) j hj
 cases e
 exact⟨_,_,rfl,ho,hc⟩
theorem sk_one {α:Type} {k:Kd α} (w:World) (ok:Nat→Prop) (x:α) (cs:List Value) (t:TypeId) (p:Nat) (hp:p=w.heap.size) (ho:ok p) (hx:k.K (w.alloc (.cells cs.toArray t)) ok x cs) :
  Kd.SK k (w.alloc (.cells cs.toArray t)) ok [x] (.slice (some ⟨p,0,none⟩) 1 1) :=
 ⟨_,1,cs,rfl,Nat.le_refl _,by simp[maxLen],rowIn_new w ok cs t p hp ho,Kd.All.single hx⟩
theorem vregs_ok (w:World):Calls Tryz.prog 125 #[.int .i64 0] w λe w'=>e=.returned (.int .i64 0)∧w'=w:=by
 go_enter Tryz.func125,Tryz.ntmps125
 go_wp2
 go_ret
 exact⟨rfl,rfl⟩
theorem mof_spill (d a p r s:Int) (V:Value) (hV:V.oneCell'=true) (A:Option Addr) (c:Nat) (w:World) (h1:0≤a) (h2:a < r) (h3:0≤d) (h4:d < s) :
  Calls Tryz.prog 124 #[.agg #[.int .u8 7,.int .u8 0,.int .i64 d,.int .i64 a,.int .i64 0,.int .i64 0,.slice A 0 c],.agg #[.int .i64 p,.int .i64 r,.int .i64 s,V]] w λe w'=>e=.returned (.int .i64 0)∧Bel w w':=by
 go_enter Tryz.func124,Tryz.ntmps124
 go_wp2
 go_quiet (fail)
 go_wp2
 go_ret
 exact⟨rfl,bN (bA (bA (bR _) _) _) _⟩
theorem mof_fill (d a p r s:Int) (V:Value) (hV:V.oneCell'=true) (A:Option Addr) (c:Nat) (w:World) (h1:0≤d) (h2:d < r) (h3:0≤a) (h4:a < s) :
  Calls Tryz.prog 124 #[.agg #[.int .u8 8,.int .u8 0,.int .i64 d,.int .i64 a,.int .i64 0,.int .i64 0,.slice A 0 c],.agg #[.int .i64 p,.int .i64 r,.int .i64 s,V]] w λe w'=>e=.returned (.int .i64 0)∧Bel w w':=by
 go_enter Tryz.func124,Tryz.ntmps124
 go_wp2
 go_quiet (fail)
 go_wp2
 go_quiet (fail)
 go_wp2
 go_ret
 exact⟨rfl,bN (bA (bA (bR _) _) _) _⟩
theorem mof_other (i:Ins) (hf:i.Fits) (p r s:Int) (h:InsOk r i) (hr3:3≤r) (hr8:r≤8) (V:Value) (hV:V.oneCell'=true) (ok:Nat→Prop) (A:Option Addr) (c:Nat) (w:World) (hA:Kd.SK kI w ok i.args (.slice A i.args.length c)) :
  Calls Tryz.prog 124 #[insV i (.slice A i.args.length c),.agg #[.int .i64 p,.int .i64 r,.int .i64 s,V]] w λe w'=>e=.returned (.int .i64 0)∧Bel w w':=by
 have HA:=Hm hA
 have HI:=Hm h
 have h7:(i.kind == 7)=false:=by rw[beq_eq_false_iff_ne];have:=h.k6;omega
 have h8:(i.kind == 8)=false:=by rw[beq_eq_false_iff_ne];have:=h.k6;omega
 clear h hA
 have HCk:=Hm (λ(w1 w2 w3:World) (hb:Bel w w1) (p1 p2:Nat) (hp1:p1=w1.heap.size) (hp2:p2=w1.heap.size+1) (e2:w2=w1.alloc (.cells #[.int .u8 i.kind,.int .u8 i.op,.int .i64 i.d,.int .i64 i.a,.int .i64 i.b,.int .i64 i.n,.slice A i.args.length c] 91))
   (e3:w3=w2.alloc (.cells #[.slice (some ⟨p1,0,none⟩) 1 1,.int .u8 1,.int .i64 0,.int .i64 0,.int .i64 0] 97))=>by
  have hsk:Kd.SK kBlock w3 (λ_=>True) [⟨[i],⟨1,0,0,0⟩⟩] (.slice (some ⟨p2,0,none⟩) 1 1):=by
   subst hp1 hp2 e2 e3
   have hI:Kd.SK kIns (w1.alloc (.cells #[.int .u8 i.kind,.int .u8 i.op,.int .i64 i.d,.int .i64 i.a,.int .i64 i.b,.int .i64 i.n,.slice A i.args.length c] 91)) (λ_=>True) [i] (.slice (some ⟨w1.heap.size,0,none⟩) 1 1) :=
    sk_one w1 (λ_=>True) i [_,_,_,_,_,_,_] 91 _ rfl trivial (kIns_mk hf ((HA.o.stay (Stays.below (bA hb _))).stay (Stays.weaken λ_ _=>trivial)))
   exact sk_one _ (λ_=>True) (⟨[i],⟨1,0,0,0⟩⟩:Block) [_,_,_,_,_] 97 _ (by simp) trivial (kBlock_mk (b:=⟨[i],⟨1,0,0,0⟩⟩) ⟨rfl,rfl,rfl,rfl⟩ (sk_bel hI (bA (bR _) _)))
  exact check_ok ⟨0,r,[⟨[i],⟨1,0,0,0⟩⟩]⟩ ⟨by simp,by simp,by simp;omega,by simp;omega,by simp,by simp,λb hb=>by
   simp only[List.mem_singleton] at hb
   subst hb
   exact⟨by simp,λj hj=>by simp only[List.mem_singleton] at hj;subst hj;exact HI.o,.inl ⟨rfl,rfl,by simp,by simp,rfl⟩⟩⟩ (λ_=>True) _ w3 hsk)
 unfold insV
 go_enter Tryz.func124,Tryz.ntmps124
 go_wp2_with fail
 refine(HCk.o _ _ _ (bA (bA (bR _) _) _) _ _ ?_ ?_ rfl rfl).mono ?_
 ·simp
 ·simp
 rintro e w1 ⟨rfl,hb1⟩
 have HB1:=Hm (bT (bA (bA (bA (bA (bR w) _) _) _) _) hb1)
 clear hb1
 go_wp2_with fail
 refine(vregs_ok _).mono ?_
 rintro e w2 ⟨rfl,rfl⟩
 go_wp2
 go_ret
 exact⟨rfl,bA HB1.o _⟩
theorem mof_ok (i:Ins) (hf:i.Fits) (p r s:Int) (h:MInsOk s r i) (hr3:3≤r) (hr8:r≤8) (V:Value) (hV:V.oneCell'=true) (ok:Nat→Prop) (A:Option Addr) (c:Nat) (w:World) (hA:Kd.SK kI w ok i.args (.slice A i.args.length c)) :
  Calls Tryz.prog 124 #[insV i (.slice A i.args.length c),.agg #[.int .i64 p,.int .i64 r,.int .i64 s,V]] w λe w'=>e=.returned (.int .i64 0)∧Bel w w':=by
 rcases h with ⟨h,ho,hb,hn,ha⟩|h
 ·obtain⟨k,op,d,a,b,n,args⟩:=i
  simp only at ho hb hn ha h
  subst ho hb hn ha
  rcases h with ⟨rfl,h1,h2,h3,h4⟩|⟨rfl,h1,h2,h3,h4⟩
  ·exact mof_spill d a p r s V hV A c w h1 h2 h3 h4
  ·exact mof_fill d a p r s V hV A c w h1 h2 h3 h4
 ·exact mof_other i hf p r s h hr3 hr8 V hV ok A c w hA
structure CodeOk (f:Code):Prop where
 p0:0≤f.params
 p4:f.params≤4
 r3:3≤f.regs
 r8:f.regs≤8
 ps:f.params≤f.slots
 s64:f.slots≤64
 n1:1≤f.blocks.length
 n16:f.blocks.length≤16
 blocks:∀ b∈f.blocks,BlockOk f.regs f.blocks.length 400 (MInsOk f.slots) b
theorem mcheck_ok (f:Code) (h:CodeOk f) (ok:Nat→Prop) (v:Value) (w:World) (hv:Kd.SK kBlock w ok f.blocks v) :
  Calls Tryz.prog 88 #[.agg #[.int .i64 f.params,.int .i64 f.regs,.int .i64 f.slots,v]] w λe w'=>e=.returned (.agg #[.int .i64 0,.int .i64 0,.int .i64 0])∧Bel w w':=by
 have HV:=Hm hv
 have HB:=Hm h.blocks
 obtain⟨params,vregs,slots,blocks⟩:=f
 obtain⟨p0,p4,r3,r8,ps,s64,n1,n16,-⟩:=h
 simp only at *
 obtain⟨A,c,rfl,hcap,-⟩:=sk_form hv
 clear hv
 have hn1:¬(blocks.length:Int) < 1:=by omega
 have hn16:¬16 < (blocks.length:Int):=by omega
 go_enter Tryz.func88,Tryz.ntmps88
 go_wp2_with fail
 obtain⟨w0,hw0⟩:∃ w0,w0=(w.alloc (.cells #[.int .i64 params,.int .i64 vregs,.int .i64 slots,.slice A blocks.length c] 59)).alloc (.cells #[.int .i64 0,.int .i64 0,.int .i64 0] 193):=⟨_,rfl⟩
 have HB0:Hd (Bel w w0):=⟨by rw[hw0];exact bA (bA (bR w) _) _⟩
 have a3:w0.cell? ⟨w.heap.size,0,none⟩=some (.int .i64 params):=by rw[hw0];go_simp
 have a4:w0.cell? ⟨w.heap.size,2,none⟩=some (.int .i64 slots):=by rw[hw0];go_simp
 have a1:w0.cell? ⟨w.heap.size,1,none⟩=some (.int .i64 vregs):=by rw[hw0];go_simp
 have a2:w0.cell? ⟨w.heap.size,3,none⟩=some (.slice A blocks.length c):=by rw[hw0];go_simp
 have r0:w0.cell? ⟨w.heap.size+1,0,none⟩=some (.int .i64 0):=by rw[hw0];go_simp
 have r1:w0.cell? ⟨w.heap.size+1,1,none⟩=some (.int .i64 0):=by rw[hw0];go_simp
 have r2:w0.cell? ⟨w.heap.size+1,2,none⟩=some (.int .i64 0):=by rw[hw0];go_simp
 have hz0:w.heap.size+1 < w0.heap.size:=by rw[hw0];simp
 have f0:w0.frozen? ⟨w.heap.size+1,0,none⟩=false:=by rw[hw0];go_simp
 have f1:w0.frozen? ⟨w.heap.size+1,1,none⟩=false:=by rw[hw0];go_simp
 have f2:w0.frozen? ⟨w.heap.size+1,2,none⟩=false:=by rw[hw0];go_simp
 rw[←hw0]
 clear hw0
 have HA0:=Hm (And.intro a1 (And.intro a2 (And.intro a3 a4)))
 have HF0:=Hm (And.intro f0 (And.intro f1 f2))
 have HR0:=Hm (And.intro r0 (And.intro r1 r2))
 clear a1 a2 a3 a4 r0 r1 r2 f0 f1 f2
 go_loopw [55] (λi wr=>∃ j:Nat,j≤blocks.length∧i=.int .i64 j∧Bel w0 wr) (λi _=>blocks.length-(intOf i).toNat)
 case atStart=>exact⟨0,Nat.zero_le _,rfl,bR _⟩
 case round =>
  obtain⟨j,hj,rfl,hb⟩:=hrel
  have HBr:=Hm hb
  clear hb
  have hzr:w.heap.size+1 < wr.heap.size:=by have:=HBr.o.size;omega
  have hzq:w.heap.size < wr.heap.size:=by omega
  by_cases hlt:j < blocks.length
  ·obtain⟨blk,off,c',v1,e,-,-,hsk,x0,x1,x2,x3,x4⟩:=sk_block (sk_bel HV.o (bT HB0.o HBr.o)) j hlt
   simp only[Value.slice.injEq] at e
   obtain⟨rfl,-,rfl⟩:=e
   have hx:=HB.o _ (List.getElem_mem hlt)
   generalize blocks[j]=x at *
   obtain⟨A1,c1,rfl,-,-⟩:=sk_form hsk
   have HX:=Hm hx
   have HSk:=Hm hsk
   have hx32:¬400 < (x.ins.length:Int):=by have:=hx.len;omega
   have hx31:x.ins.length≤400:=hx.len
   clear hx hsk
   have a1:=bCell HBr.o HA0.o.1
   have a2:=bCell HBr.o HA0.o.2.1
   go_wp2_with fail
   obtain⟨w1,hw1⟩:∃ w1,w1=wr.alloc (.cells #[.slice A1 x.ins.length c1,.int .u8 x.fin.kind,.int .i64 x.fin.a,.int .i64 x.fin.to_,.int .i64 x.fin.else_] 97):=⟨_,rfl⟩
   have HB1:Hd (Bel wr w1):=⟨by rw[hw1];exact bA (bR _) _⟩
   have hz1:wr.heap.size < w1.heap.size:=by rw[hw1];simp
   have y0:w1.cell? ⟨wr.heap.size,0,none⟩=some (.slice A1 x.ins.length c1):=by rw[hw1];go_simp
   have y1:w1.cell? ⟨wr.heap.size,1,none⟩=some (.int .u8 x.fin.kind):=by rw[hw1];go_simp
   have y2:w1.cell? ⟨wr.heap.size,2,none⟩=some (.int .i64 x.fin.a):=by rw[hw1];go_simp
   have y3:w1.cell? ⟨wr.heap.size,3,none⟩=some (.int .i64 x.fin.to_):=by rw[hw1];go_simp
   have y4:w1.cell? ⟨wr.heap.size,4,none⟩=some (.int .i64 x.fin.else_):=by rw[hw1];go_simp
   have HY:=Hm (And.intro y0 (And.intro y1 (And.intro y2 (And.intro y3 y4))))
   rw[←hw1]
   clear hw1 y0 y1 y2 y3 y4 x0 x1 x2 x3 x4
   have HA1:=Hm (And.intro (bCell HB1.o a1) (And.intro (bCell HB1.o a2) (And.intro (bCell HB1.o (bCell HBr.o HA0.o.2.2.1)) (bCell HB1.o (bCell HBr.o HA0.o.2.2.2)))))
   clear a1 a2
   obtain⟨wo,rfl⟩:∃ wo:World,wo=wr:=⟨_,rfl⟩
   go_loopw [69] (λi wr=>∃ k:Nat,k≤x.ins.length∧i=.int .i64 k∧Bel w1 wr) (λi _=>x.ins.length-(intOf i).toNat)
   case atStart=>exact⟨0,Nat.zero_le _,rfl,bR _⟩
   case round =>
    obtain⟨k,hk,rfl,hb⟩:=hrel
    have HBi:=Hm hb
    clear hb
    have hzi:w.heap.size+1 < wr.heap.size:=by have:=HBi.o.size;have:=HB1.o.size;omega
    have hzj:w.heap.size < wr.heap.size:=by omega
    have hzo:wo.heap.size < wr.heap.size:=by have:=HBi.o.size;omega
    have a1:=bCell HBi.o HA1.o.1
    have a2:=bCell HBi.o HA1.o.2.1
    have a3:=bCell HBi.o HA1.o.2.2.1
    have a4:=bCell HBi.o HA1.o.2.2.2
    by_cases hkt:k < x.ins.length
    ·obtain⟨blk2,off2,c2,v2,e,-,hfit,hsk2,z0,z1,z2,z3,z4,z5,z6⟩:=sk_ins (sk_bel HSk.o (bT HB1.o HBi.o)) k hkt
     simp only[Value.slice.injEq] at e
     obtain⟨rfl,-,rfl⟩:=e
     have hy:=HX.o.ins _ (List.getElem_mem hkt)
     generalize x.ins[k]=y at *
     obtain⟨A2,c2,rfl,-,-⟩:=sk_form hsk2
     have HOf:=Hm (λ(w':World) (hb:Bel wr w')=>mof_ok y hfit params vregs slots hy r3 r8 (.slice (some ⟨blk,off,none⟩) blocks.length c) rfl ok A2 c2 w' (sk_bel hsk2 hb))
     clear hy hsk2 hfit
     unfold insV at HOf
     go_wp2_with fail
     refine(HOf.o _ (bA (bR _) _)).mono ?_
     rintro e w2 ⟨rfl,hb2⟩
     have HB2:=Hm (bT HBi.o (bUA hb2))
     clear hb2 z0 z1 z2 z3 z4 z5 z6 a1 a2 a3 a4
     go_wp2_with fail
     go_roundw
     case rel=>exact⟨k+1,by omega,by go_num,HB2.o⟩
     case measure=>simp[intOf];omega
    ·have y1:=bCell HBi.o HY.o.2.1
     have y2:=bCell HBi.o HY.o.2.2.1
     have y3:=bCell HBi.o HY.o.2.2.2.1
     have y4:=bCell HBi.o HY.o.2.2.2.2
     have HEnd:=Hm (λ(w':World)=>ends_ok x.fin vregs blocks.length HX.o.fin w')
     unfold endV at HEnd
     go_wp2_with fail
     refine(HEnd.o _).mono ?_
     rintro e w2 ⟨rfl,hb2⟩
     have HB2:=Hm (bT HBr.o (bT HB1.o (bT HBi.o hb2)))
     clear hb2 a1 a2 a3 a4 y1 y2 y3 y4
     go_wp2_with fail
     refine(vregs_ok _).mono ?_
     rintro e w3 ⟨rfl,rfl⟩
     go_wp2_with fail
     go_roundw
     case rel=>exact⟨j+1,by omega,by go_num,HB2.o⟩
     case measure=>simp[intOf];omega
  ·have r0:=bCell HBr.o HR0.o.1
   have r1:=bCell HBr.o HR0.o.2.1
   have r2:=bCell HBr.o HR0.o.2.2
   have f0:=bFree HBr.o HR0.o.1 HF0.o.1
   have f1:=bFree HBr.o HR0.o.2.1 HF0.o.2.1
   have f2:=bFree HBr.o HR0.o.2.2 HF0.o.2.2
   go_wp2
   refine bodyPost_ret (v:=.agg #[.int .i64 0,.int .i64 0,.int .i64 0]) (by simp[results,Tryz.results88,go_sem,r0,r1,r2]) rfl ⟨rfl,bC (bC (bC (bT HB0.o HBr.o) (by omega) _ _) (by omega) _ _) (by omega) _ _⟩
structure WrIn (w:World) (p:Nat) (l:List UInt8) (A:Option Addr) (ca:Nat):Prop where
 head:w.heap[p]?=some (.cells #[.slice A l.length ca] 229 (0,0))
 bytes:Bytes w A l
 ne:∀ a,A=some a→p < a.block
 cap:l.length≤ca
def WrAt (w:World) (p:Nat) (l:List UInt8):Prop:=∃ A ca,WrIn w p l A ca
section
variable {w w':World} {p:Nat} {l:List UInt8} {A:Option Addr} {ca:Nat}
theorem WrIn.lt (h:WrIn w p l A ca):p < w.heap.size:=(Array.getElem?_eq_some_iff.1 h.head).1
theorem WrAt.lt (h:WrAt w p l):p < w.heap.size:=by obtain⟨_,_,h⟩:=h;exact h.lt
theorem WrIn.c0 (h:WrIn w p l A ca):w.cell? ⟨p,0,none⟩=some (.slice A l.length ca):=by unfold World.cell?;rw[h.head];rfl
theorem WrIn.free (h:WrIn w p l A ca) (k:Nat):w.frozen? ⟨p,k,none⟩=false:=by unfold World.frozen?;rw[h.head];simp
theorem WrAt.below (h:WrAt w p l) (hb:Bel w w'):WrAt w' p l:=by
 obtain⟨A,ca,h⟩:=h
 exact⟨A,ca,by rw[hb.block p h.lt];exact h.head,h.bytes.below hb,h.ne,h.cap⟩
theorem WrIn.store (h:WrIn w p l A ca) {l':List UInt8} {v:Value} {w1:World} (hb:Bel w w1) (ho:OwnB w1 w.heap.size v l'):WrAt (w1.setCell ⟨p,0,none⟩ v) p l':=by
 obtain⟨A',c',rfl,hrow,hl,hbase,hcap,_⟩:=own_row ho
 simp only[List.length_map] at hl
 have hne:∀ a,A'=some a→p < a.block:=λa ha=>by have:=hbase a ha;have:=h.lt;omega
 refine⟨A',c',?_,?_,hne,hcap⟩
 ·have h1:w1.heap[p]?=some (.cells #[.slice A l.length ca] 229 (0,0)):=by rw[hb.block p h.lt];exact h.head
  rw[Go.Joins.block_setCell h1 _]
  rfl
 ·intro j hj
  obtain⟨b,o,e,hc⟩:=hrow j hj
  refine⟨b,o,e,?_⟩
  rw[←hc]
  exact cell_of_heap (heap_setCell_other w1 ⟨p,0,none⟩ b _ (by have:=hne _ e;simp only at this⊢;omega))
end
structure WrStep (w w':World) (p:Nat) (l:List UInt8):Prop where
 grown:w.grownBy w' (some p)
 wr:WrAt w' p l
theorem WrStep.trans {w w1 w2:World} {p:Nat} {l l':List UInt8} (h:WrStep w w1 p l) (k:WrStep w1 w2 p l'):WrStep w w2 p l':=⟨grownBy_trans h.grown k.grown,k.wr⟩
theorem WrStep.bel {w w1 w2:World} {p:Nat} {l:List UInt8} (hb:Bel w w1) (k:WrStep w1 w2 p l):WrStep w w2 p l:=⟨grownBy_trans (grownBy_below hb) k.grown,k.wr⟩
def flatL (l:List Int):List UInt8:=l.flatMap λn=>leb n.toNat
theorem flatL_snoc (l:List Int) (n:Int):flatL (l++[n])=flatL l++leb n.toNat:=by simp[flatL]
theorem flatL_len:∀ (l:List Int),(∀ n∈l,0≤n∧n < 4294967296)→(flatL l).length≤10*l.length
 |[],_=>by simp[flatL]
 |n :: l,h=>by
  have h1:=leb_len10 (n:=n.toNat) (by have:=h n (by simp);omega)
  have h2:=flatL_len l λm hm=>h m (by simp[hm])
  simp only[flatL,List.flatMap_cons,List.length_append,List.length_cons] at *
  omega
theorem take_snoc' {α:Type} (l:List α) (j:Nat) (h:j < l.length):l.take (j+1)=l.take j++[l[j]]:=by rw[List.take_succ_eq_append_getElem h]
theorem ints_grown {w w':World} {p:Nat} {A:Option Addr} {L:List Int} (h:Ints w A L) (hg:w.grownBy w' (some p)) (hA:0 < L.length→∀ a,A=some a→a.block≠p):Ints w' A L:=by
 rcases Nat.eq_zero_or_pos L.length with h0|h0
 ·obtain rfl:L=[]:=List.eq_nil_of_length_eq_zero h0
  exact Row.nil _ _
 ·exact Row.grown h hg (λa ha e=>hA h0 a ha (by simpa using e))
theorem nums_any (p:Nat) (l:List UInt8) (L:List Int) (A:Option Addr) (ca:Nat) (w:World) (h:WrAt w p l) (hI:Ints w A L) (hA:0 < L.length→∀ a,A=some a→a.block≠p) (hL:∀ n∈L,0≤n∧n < 4294967296) (hb:l.length+10*L.length≤10000000) :
  Calls Tryz.prog 118 #[.pointer (some ⟨p,0,none⟩),.slice A L.length ca] w λe w'=>e=.returned (.tuple #[])∧WrStep w w' p (l++flatL L):=by
 have H0:=Hm h
 have HI:=Hm hI
 have HA:=Hm hA
 have HL:=Hm hL
 clear h hI hA hL
 have hl2:L.length≤10000000:=by omega
 go_enter Tryz.func118,Tryz.ntmps118
 go_wp2_with fail
 go_loopw [8] (λi wr=>∃ j:Nat,j≤L.length∧i=.int .i64 j∧WrStep w wr p (l++flatL (L.take j))) (λi _=>L.length-(intOf i).toNat)
 case atStart=>exact⟨0,Nat.zero_le _,rfl,grownBy_refl _ _,by simpa [flatL] using H0.o⟩
 case round =>
  obtain⟨j,hj,rfl,hs⟩:=hrel
  have HS:=Hm hs
  clear hs
  by_cases hlt:j < L.length
  ·have hrow:=Row.grown HI.o HS.o.grown (λa ha e=>HA.o (by omega) a ha (by simpa using e))
   obtain⟨b,off,rfl,hc⟩:=hrow j (by simpa using hlt)
   simp only[List.getElem_map] at hc
   have hn:=HL.o _ (List.getElem_mem hlt)
   have HT:=Hm (take_snoc' L j hlt)
   have hfl:=flatL_len (L.take j) (λn hn=>HL.o n (List.mem_of_mem_take hn))
   simp only[List.length_take] at hfl
   generalize L[j]=n at *
   obtain⟨m,rfl⟩:=Int.eq_ofNat_of_zero_le hn.1
   have hm:m < 4294967296:=by omega
   clear hn hrow
   obtain⟨A1,ca1,hw⟩:=HS.o.wr
   have HW:=Hm hw
   have c0:=hw.c0
   have f0:=hw.free 0
   obtain⟨B,hB⟩:∃ B,l++flatL (L.take j)=B:=⟨_,rfl⟩
   have hBl:B.length≤10000000:=by rw[←hB];simp;omega
   have HBE:=Hm hB
   rw[hB] at HS HW c0
   clear hw hB
   go_wp2_with fail
   refine(put_any A1 ca1 B m _ HW.o.bytes hBl (by omega)).mono ?_
   rintro e w1 ⟨hb1,v1,rfl,ho1⟩
   obtain⟨A2,c2,rfl,-,-,-,-,-⟩:=own_row ho1
   have c1:=bCell hb1 c0
   have f1:=bFree hb1 c0 f0
   have HB1:=Hm hb1
   have HO1:=Hm ho1
   clear hb1 ho1 c0 f0 hc
   go_wp2_with fail
   have hfin:WrStep w (w1.setCell ⟨p,0,none⟩ (.slice A2 (B++leb m).length c2)) p (l++flatL (L.take (j+1))):=by
    rw[HT.o,flatL_snoc,←List.append_assoc,HBE.o]
    exact⟨grownBy_trans HS.o.grown (grownBy_trans (grownBy_below HB1.o) (grownBy_cell _ _ _ _)),by simpa using HW.o.store HB1.o HO1.o⟩
   simp only[List.length_append] at hfin
   have HF:=Hm hfin
   clear hfin
   go_roundw
   case rel=>exact⟨j+1,by omega,by go_num,HF.o⟩
   case measure=>simp[intOf];omega
  ·go_wp2
   go_end0
   have:L.take j=L:=List.take_of_length_le (by omega)
   rw[←this]
   exact⟨rfl,by rw[this];have:=HS.o;rwa [List.take_of_length_le (by omega)] at this⟩
theorem gcell {W w1:World} {p:Nat} (hg:W.grownBy w1 (some p)):∀ b o,b < W.heap.size→b≠p→w1.cell? ⟨b,o,none⟩=W.cell? ⟨b,o,none⟩:=by
 intro b o hb hne
 unfold World.cell?
 rw[hg.block b hb (by simpa using hne)]
theorem nums_lit (p:Nat) (l:List UInt8) (L:List Int) (w:World) (q n:Nat) (hq:q=w.heap.size) (hn:n=L.length) (h:WrAt w p l) (hL:∀ n∈L,0≤n∧n < 4294967296) (hb:l.length+10*L.length≤10000000) :
  Calls Tryz.prog 118 #[.pointer (some ⟨p,0,none⟩),.slice (some ⟨q,0,none⟩) n n] (w.alloc (.cells (L.map (Value.int .i64)).toArray 3)) λe w'=>e=.returned (.tuple #[])∧WrStep w w' p (l++flatL L):=by
 subst hq hn
 have hp:=h.lt
 refine(nums_any p l L (some ⟨w.heap.size,0,none⟩) L.length _ (h.below (bA (bR w) _)) (row_new _ _ _ _) (λ_ a ha=>by cases ha;simp only;omega) hL hb).mono ?_
 rintro e w' ⟨he,hs⟩
 exact⟨he,WrStep.bel (bA (bR w) _) hs⟩
def encIns (i:Ins):List UInt8 :=
 flatL [i.kind] ++
 if i.kind=1 then flatL [i.d]++leb (zig i.n)
 else if i.kind=2∨i.kind=4∨i.kind=7∨i.kind=8 then flatL [i.d,i.a]
 else if i.kind=3 then flatL [i.op,i.d,i.a,i.b]
 else if i.kind=5 then flatL [i.a,i.b]
 else if i.kind=6 then flatL [i.d]++leb (zig i.n)++flatL [(i.args.length:Int)]++flatL i.args
 else []
structure InsSmall (i:Ins):Prop where
 op:0≤i.op∧i.op < 4096
 d:0≤i.d∧i.d < 4096
 a:0≤i.a∧i.a < 4096
 b:0≤i.b∧i.b < 4096
 n:-9223372036854775808≤i.n∧i.n≤9223372036854775807
 args:∀ x∈i.args,0≤x∧x < 4096
 len:i.args.length≤3
end Go.Proofs.YtjkgligohegaeaaGreatDoor
