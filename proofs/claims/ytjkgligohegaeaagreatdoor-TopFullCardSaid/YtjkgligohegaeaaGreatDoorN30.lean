/- Lemmas of the row. -/
import Derived.Test.YtjkgligohegaeaaGreatDoorN29
set_option linter.all false
set_option maxRecDepth 20000
set_option maxHeartbeats 12800000
namespace Go.Proofs.YtjkgligohegaeaaGreatDoor
open Go.RowKit
theorem refZig_any (n:Int) (h1:-9223372036854775808≤n) (h2:n≤9223372036854775807) (w:World) :
  Calls Tryz.prog 128 #[.int .i64 n] w λe w'=>e=.returned (.int .u64 (zig n))∧w'=w:=by
 unfold zig
 by_cases h0:0≤n
 ·obtain⟨m,rfl⟩:=Int.eq_ofNat_of_zero_le h0
  have hw:IntKind.u64.wrap (m:Int)=m:=wrap_u64 m (by omega)
  have hw2:IntKind.u64.wrap (2*(m:Int))=((2*m:Nat):Int):=by have:=wrap_u64 (2*m) (by omega);push_cast at this⊢;exact this
  have hn:¬(m:Int) < 0:=by omega
  rw[if_pos h0,show ((2*(m:Int)).toNat:Int)=((2*m:Nat):Int) by omega]
  go_enter Tryz.func128,Tryz.ntmps128
  go_wp2
  go_ret
  exact⟨rfl,rfl⟩
 ·obtain⟨m,hm⟩:∃ m:Nat,-(n+1)=m:=⟨(-(n+1)).toNat,by omega⟩
  have hw0:IntKind.i64.wrap (n+1)=n+1:=Go.IntWalk.i64_in _ (by omega)
  have hw1:IntKind.i64.wrap (-(n+1))=m:=by rw[hm];exact Go.IntWalk.i64_in _ (by omega)
  have hw:IntKind.u64.wrap (m:Int)=m:=wrap_u64 m (by omega)
  have hw2:IntKind.u64.wrap (2*(m:Int))=((2*m:Nat):Int):=by have:=wrap_u64 (2*m) (by omega);push_cast at this⊢;exact this
  have hw3:IntKind.u64.wrap (2*(m:Int)+1)=((2*m+1:Nat):Int):=by have:=wrap_u64 (2*m+1) (by omega);push_cast at this⊢;exact this
  have hn:n < 0:=by omega
  rw[if_neg h0,show ((-(2*n)-1).toNat:Int)=((2*m+1:Nat):Int) by omega]
  clear h0 hm
  go_enter Tryz.func128,Tryz.ntmps128
  go_wp2
  go_ret
  exact⟨rfl,rfl⟩
theorem refTakes_any (e:End) (w:World) :
  Calls Tryz.prog 99 #[.agg #[.int .u8 e.kind,.int .i64 e.a,.int .i64 e.to_,.int .i64 e.else_]] w λr w'=>r=.returned (.bool (e.kind == 2 || e.kind == 3))∧Bel w w':=by
 obtain⟨k,a,t,l⟩:=e
 dsimp only
 by_cases h2:k=2
 ·subst h2
  go_enter Tryz.func99,Tryz.ntmps99
  go_wp2
  go_ret
  exact⟨rfl,bA (bR w) _⟩
 ·by_cases h3:k=3
  ·subst h3
   go_enter Tryz.func99,Tryz.ntmps99
   go_wp2
   go_ret
   exact⟨rfl,bA (bR w) _⟩
  ·have e2:(k == 2)=false:=by simpa using h2
   have e3:(k == 3)=false:=by simpa using h3
   go_enter Tryz.func99,Tryz.ntmps99
   go_wp2
   go_ret
   exact⟨by simp[e2,e3],bA (bR w) _⟩
def nameL (k:Nat):List UInt8:=if k=1 then [68,78] else if k=3 then [79,68,65,66] else if k=5 then [65,66] else if k=6 then [68,78,82] else [68,65]
theorem names_any (k:Nat) (h1:1≤k) (h8:k≤8) (w:World) :
  Calls Tryz.prog 97 #[.int .u8 k] w λe w'=>e=.returned (.string ⟨(nameL k).toArray⟩)∧Bel w w':=by
 have:k=1∨k=2∨k=3∨k=4∨k=5∨k=6∨k=7∨k=8:=by omega
 rcases this with rfl|rfl|rfl|rfl|rfl|rfl|rfl|rfl
 all_goals
  go_enter Tryz.func97,Tryz.ntmps97
  go_wp2
  go_ret
  exact⟨rfl,bA (bR w) _⟩
def fldL (op d a b:Nat) (n:Int) (args:List Int) (c:Nat):List UInt8 :=
 if c=79 then leb op else if c=68 then leb d else if c=65 then leb a else if c=66 then leb b else if c=78 then leb (zig n) else leb args.length++flatL args
def RefB (w:World) (l:List UInt8) (e:Ending) (w':World):Prop:=Bel w w'∧∃ V,e=.returned V∧NewB w w' V l
theorem putB (A:Option Addr) (ca:Nat) (b:List UInt8) (n:Nat) (w:World) (hA:Bytes w A b) (hb:b.length≤10000000) (hn:n < 18446744073709551616) :
  Calls Tryz.prog 24 #[.slice A b.length ca,.int .u64 n] w (RefB w (b++leb n)):=by
 refine(refPut_any A ca b n w hA hb hn).mono ?_
 rintro e w' ⟨h,v,rfl,ho⟩
 exact⟨h,v,rfl,NewB.ofOwn ho⟩
theorem field_any (bs:List UInt8) (A:Option Addr) (ca:Nat) (k:Int) (op d a b:Nat) (n:Int) (args:List Int) (ho:op < 4096) (hd:d < 4096) (ha:a < 4096) (hb:b < 4096) (hn1:-9223372036854775808≤n) (hn2:n≤9223372036854775807)
  (hl3:args.length≤3) (hargs:∀ x∈args,0≤x∧x < 4096) (c:Nat) (hc:c=79∨c=68∨c=65∨c=66∨c=78∨c=82) (B:Option Addr) (cB:Nat) (w:World) (hB:Ints w B args) (hA:Bytes w A bs) (hbs:bs.length≤1000000) :
  Calls Tryz.prog 98 #[.slice A bs.length ca,.agg #[.int .u8 k,.int .u8 op,.int .i64 d,.int .i64 a,.int .i64 b,.int .i64 n,.slice B args.length cB],.int .u8 c] w (RefB w (bs++fldL op d a b n args c)):=by
 have HA:=Hm hA
 have HB:=Hm hB
 have HR:=Hm hargs
 have HP:=Hm (λ(m:Nat) (hm:m < 18446744073709551616) (wx:World) (h:Bel w wx)=>putB A ca bs m wx (HA.o.below h) (by omega) hm)
 have HZ:=Hm (λ(wx:World)=>refZig_any n hn1 hn2 wx)
 have hz:zig n < 18446744073709551616:=zig_lt n hn1 hn2
 have w1:IntKind.u64.wrap (op:Int)=op:=wrap_u64 op (by omega)
 have w2:IntKind.u64.wrap (d:Int)=d:=wrap_u64 d (by omega)
 have w3:IntKind.u64.wrap (a:Int)=a:=wrap_u64 a (by omega)
 have w4:IntKind.u64.wrap (b:Int)=b:=wrap_u64 b (by omega)
 have w5:IntKind.u64.wrap (args.length:Int)=args.length:=wrap_u64 args.length (by omega)
 have hfin:∀ (l:List UInt8) (wx w':World) (e:Ending),Bel w wx→RefB wx l e w'→RefB w l e w':=by
  rintro l wx w' e h ⟨h1,V,rfl,h2⟩
  exact⟨bT h h1,V,rfl,h2.base h⟩
 have HF:=Hm hfin
 clear hA hB hargs hfin hn1 hn2
 rcases hc with rfl|rfl|rfl|rfl|rfl|rfl
 ·rw[show fldL op d a b n args 79=leb op by simp[fldL]]
  have HP1:=Hm (HP.o op (by omega))
  generalize bs++leb op=L at HP1⊢
  go_enter Tryz.func98,Tryz.ntmps98
  go_wp2_with fail
  refine(HP1.o _ (bA (bR w) _)).mono ?_
  rintro e w6 hr
  have HX:=Hm (HF.o _ _ _ _ (bA (bR w) _) hr)
  obtain⟨hb,V,rfl,hv⟩:=hr
  obtain⟨A1,c1,rfl,-⟩:=hv
  clear hb
  go_wp2_with fail
  go_ret
  exact HX.o
 ·rw[show fldL op d a b n args 68=leb d by simp[fldL]]
  have HP1:=Hm (HP.o d (by omega))
  generalize bs++leb d=L at HP1⊢
  go_enter Tryz.func98,Tryz.ntmps98
  go_wp2_with fail
  refine(HP1.o _ (bA (bR w) _)).mono ?_
  rintro e w6 hr
  have HX:=Hm (HF.o _ _ _ _ (bA (bR w) _) hr)
  obtain⟨hb,V,rfl,hv⟩:=hr
  obtain⟨A1,c1,rfl,-⟩:=hv
  clear hb
  go_wp2_with fail
  go_ret
  exact HX.o
 ·rw[show fldL op d a b n args 65=leb a by simp[fldL]]
  have HP1:=Hm (HP.o a (by omega))
  generalize bs++leb a=L at HP1⊢
  go_enter Tryz.func98,Tryz.ntmps98
  go_wp2_with fail
  refine(HP1.o _ (bA (bR w) _)).mono ?_
  rintro e w6 hr
  have HX:=Hm (HF.o _ _ _ _ (bA (bR w) _) hr)
  obtain⟨hb,V,rfl,hv⟩:=hr
  obtain⟨A1,c1,rfl,-⟩:=hv
  clear hb
  go_wp2_with fail
  go_ret
  exact HX.o
 ·rw[show fldL op d a b n args 66=leb b by simp[fldL]]
  have HP1:=Hm (HP.o b (by omega))
  generalize bs++leb b=L at HP1⊢
  go_enter Tryz.func98,Tryz.ntmps98
  go_wp2_with fail
  refine(HP1.o _ (bA (bR w) _)).mono ?_
  rintro e w6 hr
  have HX:=Hm (HF.o _ _ _ _ (bA (bR w) _) hr)
  obtain⟨hb,V,rfl,hv⟩:=hr
  obtain⟨A1,c1,rfl,-⟩:=hv
  clear hb
  go_wp2_with fail
  go_ret
  exact HX.o
 ·rw[show fldL op d a b n args 78=leb (zig n) by simp[fldL]]
  have HP1:=Hm (HP.o (zig n) hz)
  generalize bs++leb (zig n)=L at HP1⊢
  go_enter Tryz.func98,Tryz.ntmps98
  go_wp2_with fail
  refine(HZ.o _).mono ?_
  rintro e wz ⟨rfl,rfl⟩
  go_wp2_with fail
  refine(HP1.o _ (bA (bR w) _)).mono ?_
  rintro e w6 hr
  have HX:=Hm (HF.o _ _ _ _ (bA (bR w) _) hr)
  obtain⟨hb,V,rfl,hv⟩:=hr
  obtain⟨A1,c1,rfl,-⟩:=hv
  clear hb
  go_wp2_with fail
  go_ret
  exact HX.o
 ·have hcell:(w.alloc (.cells #[.int .u8 k,.int .u8 op,.int .i64 d,.int .i64 a,.int .i64 b,.int .i64 n,.slice B args.length cB] 91)).heap[w.heap.size]?=some (.cells ([.int .u8 k,.int .u8 op,.int .i64 d,.int .i64 a,.int .i64 b,.int .i64 n,.slice B args.length cB]:List Value).toArray 91 (0,0)):=hnew rfl
  have HC:=Hm hcell
  clear hcell
  rw[show bs++fldL op d a b n args 82=(bs++leb args.length)++flatL args by simp[fldL]]
  obtain⟨L0,hL0⟩:∃ L0,L0=bs++leb args.length++flatL args:=⟨_,rfl⟩
  rw[←hL0]
  have HL0:=Hm hL0
  clear hL0
  go_enter Tryz.func98,Tryz.ntmps98
  go_wp2_with fail
  refine(HP.o args.length (by omega) _ (bA (bR w) _)).mono ?_
  rintro e w6 ⟨hb6,V,rfl,A1,c1,rfl,h1,h2,h3⟩
  have HW6:=Hm (And.intro (bT (bA (bR w) _) hb6) (bHeap hb6 HC.o))
  have HV6:=Hm (And.intro h1 (And.intro h2 (λ(a:Addr) (ha:A1=some a)=>(show w.heap.size≤a.block from by have:=h3 a ha;simp at this;omega))))
  have hl1:=leb_len10 (n:=args.length) (by omega)
  have hll:(bs++leb args.length).length≤1000010:=by simp;omega
  generalize bs++leb args.length=b2 at *
  clear hb6 h1 h2 h3 HP HZ HF hl1 w1 w2 w3 w4 w5 hz
  go_wp2_with fail
  go_loopw [0,7] (λv i wr=>∃ (j:Nat),j≤args.length∧i=.int .i64 j∧Bel w wr∧wr.heap[w.heap.size]?=some (.cells ([.int .u8 k,.int .u8 op,.int .i64 d,.int .i64 a,.int .i64 b,.int .i64 n,.slice B args.length cB]:List Value).toArray 91 (0,0))∧NewB w wr v (b2++flatL (args.take j))) (λ_ i _=>args.length-(intOf i).toNat)
  case atStart=>exact⟨0,Nat.zero_le _,rfl,HW6.o.1,HW6.o.2,A1,c1,by simp[flatL],by simpa [flatL] using HV6.o.1,by simpa [flatL] using HV6.o.2.1,HV6.o.2.2⟩
  case round =>
   obtain⟨j,hj,rfl,hb,hh,A2,c2,rfl,g1,g2,g3⟩:=hrel
   have HW:=Hm (And.intro hb hh)
   have HV:=Hm (And.intro g1 (And.intro g2 g3))
   have q6:wr.cell? ⟨w.heap.size,6,none⟩=some (.slice B args.length cB):=cell_at hh
   have hq:=hlt hh
   clear hb hh g1 g2 g3
   by_cases hlt:j < args.length
   ·obtain⟨bb,off,rfl,hx⟩:=HB.o j (by simpa using hlt)
    simp only[List.getElem_map] at hx
    have hx2:=bCell HW.o.1 hx
    obtain⟨h0,h4⟩:=HR.o _ (List.getElem_mem hlt)
    obtain⟨x,hxx⟩:=Int.eq_ofNat_of_zero_le h0
    have hfl:b2++flatL (args.take (j+1))=(b2++flatL (args.take j))++leb x:=by
     rw[take_snoc' args j hlt,flatL_snoc,hxx];simp
    have hlen:(flatL (args.take j)).length≤10*(args.take j).length:=flatL_len _ (λm hm=>by have:=HR.o m (List.mem_of_mem_take hm);omega)
    have hln:(b2++flatL (args.take j)).length≤1000100:=by simp at hlen⊢;omega
    rw[hxx] at hx2 h4
    generalize b2++flatL (args.take j)=L at hfl hln HV⊢
    have HFl:=Hm hfl
    have wx:IntKind.u64.wrap (x:Int)=x:=wrap_u64 x (by omega)
    clear hx hxx hfl hlen h0
    go_wp2_with fail
    have hput:=putB A2 c2 L x wr HV.o.1 (by omega) (by omega)
    refine hput.mono ?_
    rintro e w7 ⟨hb7,V,rfl,A3,c3,rfl,k1,k2,k3⟩
    have HW7:=Hm (And.intro (bT HW.o.1 hb7) (bHeap hb7 HW.o.2))
    have HV7:=Hm (And.intro k1 (And.intro k2 (λ(a:Addr) (ha:A3=some a)=>(show w.heap.size≤a.block from by have:=k3 a ha;have:=HW.o.1.size;omega))))
    generalize L++leb x=L2 at HV7 HFl⊢
    clear hb7 k1 k2 k3 hx2 hln HV
    go_wp2_with fail
    go_roundw
    case rel=>exact⟨j+1,by omega,by go_num,HW7.o.1,HW7.o.2,by rw[HFl.o];exact⟨A3,c3,rfl,HV7.o.1,HV7.o.2.1,HV7.o.2.2⟩⟩
    case measure=>simp[intOf];omega
   ·obtain rfl:j=args.length:=by omega
    rw[List.take_length] at HV⊢
    rw[←HL0.o] at HV⊢
    go_wp2_with fail
    go_ret
    exact⟨HW.o.1,_,rfl,A2,c2,rfl,HV.o.1,HV.o.2.1,HV.o.2.2⟩
def fldI (i:Ins) (c:UInt8):List UInt8:=fldL i.op.toNat i.d.toNat i.a.toNat i.b.toNat i.n i.args c.toNat
theorem encIns_fld (i:Ins) (h:InsFine i):encIns i=leb i.kind.toNat++(nameL i.kind.toNat).flatMap (fldI i):=by
 obtain⟨k,op,d,a,b,n,args⟩:=i
 obtain⟨-,k1,k8⟩:=h
 dsimp only at k1 k8
 have:k=1∨k=2∨k=3∨k=4∨k=5∨k=6∨k=7∨k=8:=by omega
 rcases this with rfl|rfl|rfl|rfl|rfl|rfl|rfl|rfl<;>simp[encIns,fldI,fldL,nameL,flatL]
theorem name_mem (k:Nat) (c:UInt8) (h:c∈nameL k):c.toNat=79∨c.toNat=68∨c.toNat=65∨c.toNat=66∨c.toNat=78∨c.toNat=82:=by
 unfold nameL at h
 repeat' split at h
 all_goals (simp at h;rcases h with rfl|rfl|rfl|rfl<;>decide)
theorem fldL_len (op d a b:Nat) (n:Int) (args:List Int) (c:Nat) (h3:args.length≤3) (ha:∀ x∈args,0≤x∧x < 4096) (hn:-9223372036854775808≤n∧n≤9223372036854775807) (ho:op < 4096) (hd:d < 4096) (haa:a < 4096) (hb:b < 4096):(fldL op d a b n args c).length≤50:=by
 have l1:=leb_len10 (n:=op) (by omega)
 have l2:=leb_len10 (n:=d) (by omega)
 have l3:=leb_len10 (n:=a) (by omega)
 have l4:=leb_len10 (n:=b) (by omega)
 have l5:=leb_len10 (n:=zig n) (zig_lt n hn.1 hn.2)
 have l6:=leb_len10 (n:=args.length) (by omega)
 have l7:=flatL_len args (λm hm=>by have:=ha m hm;omega)
 unfold fldL
 repeat' split
 all_goals (first|omega|(simp only[List.length_append];omega))
theorem fldI_len (i:Ins) {l:List UInt8} (hl:l.length≤4) (h3:i.args.length≤3) (ha:∀ x∈i.args,0≤x∧x < 4096) (hn:-9223372036854775808≤i.n∧i.n≤9223372036854775807) (ho:i.op < 4096) (hd:i.d < 4096) (haa:i.a < 4096) (hb:i.b < 4096):(l.flatMap (fldI i)).length≤200:=by
 have hg:∀ l:List UInt8,(l.flatMap (fldI i)).length≤50*l.length:=by
  intro l
  induction l with
  |nil=>simp
  |cons c r ih =>
   have:=fldL_len i.op.toNat i.d.toNat i.a.toNat i.b.toNat i.n i.args c.toNat h3 ha hn (by omega) (by omega) (by omega) (by omega)
   simp only[List.flatMap_cons,List.length_append,List.length_cons,fldI] at *
   omega
 have:=hg l
 omega
theorem name_len (k:Nat):(nameL k).length≤4:=by
 unfold nameL
 repeat' split
 all_goals simp
theorem bytes_any (bs:List UInt8) (A:Option Addr) (ca:Nat) (l:List Block) (h16:l.length≤16) (hf:∀ b∈l,BlockFine b) (ok:Nat→Prop) (lv:Value) (w:World) (hv:Kd.SK kBlock w ok l lv) (hA:Bytes w A bs) (hbs:bs.length≤1000) :
  Calls Tryz.prog 60 #[.slice A bs.length ca,lv] w (RefB w (bs++encBlocks l)):=by
 have HV:=Hm hv
 have HA:=Hm hA
 have HF:=Hm hf
 obtain⟨B,cb,rfl,-,-⟩:=sk_form hv
 have HQ:Hd (bs++encBlocks l=(bs++leb l.length)++l.flatMap encBlock):=⟨by simp[encBlocks,flatL]⟩
 rw[HQ.o]
 obtain⟨LF,hLF⟩:∃ LF,LF=(bs++leb l.length)++l.flatMap encBlock:=⟨_,rfl⟩
 rw[←hLF]
 have HLF:=Hm hLF
 clear hLF
 have tw:IntKind.u64.wrap (l.length:Int)=l.length:=wrap_u64 _ (by omega)
 clear hv hA hf
 unfold RefB
 go_enter Tryz.func60,Tryz.ntmps60
 go_wp2_with fail
 have hput:=putB A ca bs l.length w (HA.o) (by omega) (by omega)
 refine hput.mono ?_
 rintro e Y1 ⟨hb,V,rfl,A1,c1,rfl,k1,k2,k3⟩
 obtain⟨L1,hL1⟩:∃ z,z=bs++leb l.length:=⟨_,rfl⟩
 rw[←hL1] at k1 k2⊢
 have hn1:(leb l.length).length≤10:=leb_len10 (by omega)
 have hl1:L1.length≤1010:=by rw[hL1,List.length_append];omega
 have HN1:=Hm (And.intro (bT (bR w) hb) (And.intro k1 (And.intro k2 (λ(a:Addr) (ha:A1=some a)=>(show w.heap.size≤a.block from by have:=k3 a ha;have:=(bR w).size;omega)))))
 have HLe1:=Hm hL1
 clear hput k1 k2 k3 hL1 hn1
 clear hb
 go_wp2_with fail
 go_loopw [0,5] (λv i wr=>∃ (j:Nat),j≤l.length∧i=.int .i64 j∧Bel w wr∧NewB w wr v (L1++(l.take j).flatMap encBlock)) (λ_ i _=>l.length-(intOf i).toNat)
 case atStart=>exact⟨0,Nat.zero_le _,rfl,HN1.o.1,A1,c1,by simp,by simpa using HN1.o.2.1,by simpa using HN1.o.2.2.1,HN1.o.2.2.2⟩
 case round =>
  obtain⟨j,hj,rfl,hb,A2,c2,rfl,g1,g2,g3⟩:=hrel
  have HW:=Hm hb
  have HG:=Hm (And.intro g1 (And.intro g2 g3))
  have hlj:((l.take j).flatMap encBlock).length≤40100*j:=by
   have:=flatBlock_len (l.take j) (λb hb=>HF.o b (List.mem_of_mem_take hb))
   simp at this⊢;omega
  clear hb g1 g2 g3
  by_cases hjt:j < l.length
  ·obtain⟨bb,off,cB,v1,e,-,hfin,hsi,x0,x1,x2,x3,x4⟩:=sk_block HV.o j hjt
   simp only[Value.slice.injEq] at e
   obtain⟨rfl,-,rfl⟩:=e
   obtain⟨Bi,ci,rfl,-⟩:=sk_form hsi
   have hbf:=HF.o _ (List.getElem_mem hjt)
   have htk:L1++(l.take (j+1)).flatMap encBlock=(L1++(l.take j).flatMap encBlock)++encBlock l[j]:=by rw[take_snoc' l j hjt,List.flatMap_append];simp
   have hLL:(L1++(l.take j).flatMap encBlock).length≤1010+40100*j:=by rw[List.length_append];omega
   generalize l[j]=y at *
   obtain⟨yi,⟨yk,ya,yt,ye⟩⟩:=y
   obtain⟨hb400,hbi,he1,he3,hea,het,hel⟩:=hbf
   dsimp only at *
   have HSi:=Hm hsi
   have HXw:=Hm (And.intro x0 (And.intro x1 (And.intro x2 (And.intro x3 x4))))
   have HBi:=Hm hbi
   have HTk:=Hm htk
   generalize L1++(l.take j).flatMap encBlock=LL at *
   have y0:=bCell HW.o x0
   have hyz:=World.block_lt_of_cell? _ _ y0
   have tw2:IntKind.u64.wrap (yi.length:Int)=yi.length:=wrap_u64 _ (by omega)
   clear hsi hfin hbi htk x0 x1 x2 x3 x4
   dsimp only at hyz
   go_wp2_with fail
   have hput:=putB A2 c2 LL yi.length wr (HG.o.1) (by omega) (by omega)
   refine hput.mono ?_
   rintro e Y2 ⟨hb,V,rfl,A2,c2,rfl,k1,k2,k3⟩
   obtain⟨L2,hL2⟩:∃ z,z=LL++leb yi.length:=⟨_,rfl⟩
   rw[←hL2] at k1 k2⊢
   have hn2:(leb yi.length).length≤10:=leb_len10 (by omega)
   have hl2:L2.length≤1020+40100*j:=by rw[hL2,List.length_append];omega
   have HN2:=Hm (And.intro (bT (HW.o) hb) (And.intro k1 (And.intro k2 (λ(a:Addr) (ha:A2=some a)=>(show w.heap.size≤a.block from by have:=k3 a ha;have:=(HW.o).size;omega)))))
   have HLe2:=Hm hL2
   clear hput k1 k2 k3 hL2 hn2
   clear hb HG HW y0 hyz
   go_wp2_with fail
   go_loopw [0,6] (λv i wr=>∃ (k:Nat),k≤yi.length∧i=.int .i64 k∧Bel w wr∧NewB w wr v (L2++(yi.take k).flatMap encIns)) (λ_ i _=>yi.length-(intOf i).toNat)
   case atStart=>exact⟨0,Nat.zero_le _,rfl,HN2.o.1,A2,c2,by simp,by simpa using HN2.o.2.1,by simpa using HN2.o.2.2.1,HN2.o.2.2.2⟩
   case round =>
    obtain⟨k,hk,rfl,hb,A3,c3,rfl,g1,g2,g3⟩:=hrel
    have HW:=Hm hb
    have HG:=Hm (And.intro g1 (And.intro g2 g3))
    have hlk:((yi.take k).flatMap encIns).length≤100*k:=by
     have:=flatIns_len (yi.take k) (λb hb=>HBi.o b (List.mem_of_mem_take hb))
     simp at this⊢;omega
    have y0:=bCell HW.o HXw.o.1
    have hyz:=World.block_lt_of_cell? _ _ y0
    dsimp only at hyz
    clear hb g1 g2 g3
    by_cases hkt:k < yi.length
    ·obtain⟨ib,io,ic,va,e,-,-,hsa,z0,z1,z2,z3,z4,z5,z6⟩:=sk_ins (sk_bel HSi.o HW.o) k hkt
     simp only[Value.slice.injEq] at e
     obtain⟨rfl,-,rfl⟩:=e
     obtain⟨Bx,cx,rfl,-,-,hIa,-,-⟩:=ski hsa
     have hxf:=HBi.o _ (List.getElem_mem hkt)
     have hen:=encIns_fld _ hxf
     have htk2:L2++(yi.take (k+1)).flatMap encIns=(L2++(yi.take k).flatMap encIns)++encIns yi[k]:=by rw[take_snoc' yi k hkt,List.flatMap_append];simp
     have hLL2:(L2++(yi.take k).flatMap encIns).length≤1020+40100*j+100*k:=by rw[List.length_append];omega
     have HIa:=Hm (And.intro hIa HW.o)
     have hib:=World.block_lt_of_cell? _ _ z0
     dsimp only at hib
     rw[hen] at htk2
     generalize yi[k]=x at *
     obtain⟨ik,iop,id,ia,ibb,inn,iargs⟩:=x
     obtain⟨⟨ho,hd,ha,hbq,hnn,hargs,hlen⟩,kk1,kk8⟩:=hxf
     dsimp only at *
     obtain⟨ik,rfl⟩:=Int.eq_ofNat_of_zero_le (show 0≤ik by omega)
     obtain⟨iop,rfl⟩:=Int.eq_ofNat_of_zero_le ho.1
     obtain⟨id,rfl⟩:=Int.eq_ofNat_of_zero_le hd.1
     obtain⟨ia,rfl⟩:=Int.eq_ofNat_of_zero_le ha.1
     obtain⟨ibb,rfl⟩:=Int.eq_ofNat_of_zero_le hbq.1
     simp only[Int.toNat_natCast] at htk2
     have HTk2:=Hm htk2
     have HAr:=Hm (And.intro hargs hnn)
     have hik1:1≤ik:=by omega
     have hik8:ik≤8:=by omega
     have tw3:IntKind.u64.wrap (ik:Int)=ik:=wrap_u64 _ (by omega)
     generalize L2++(yi.take k).flatMap encIns=LK at *
     clear hsa hIa hen htk2 hargs hnn
     go_wp2_with fail
     have hq:(wr.alloc (.cells #[.int .u8 ik,.int .u8 iop,.int .i64 id,.int .i64 ia,.int .i64 ibb,.int .i64 inn,.slice Bx iargs.length cx] 91)).heap[wr.heap.size]?=some (.cells ([.int .u8 ik,.int .u8 iop,.int .i64 id,.int .i64 ia,.int .i64 ibb,.int .i64 inn,.slice Bx iargs.length cx]:List Value).toArray 91 (0,0)):=hnew rfl
     have hbW:Bel w (wr.alloc (.cells #[.int .u8 ik,.int .u8 iop,.int .i64 id,.int .i64 ia,.int .i64 ibb,.int .i64 inn,.slice Bx iargs.length cx] 91)):=bA HW.o _
     have hbG:Bytes (wr.alloc (.cells #[.int .u8 ik,.int .u8 iop,.int .i64 id,.int .i64 ia,.int .i64 ibb,.int .i64 inn,.slice Bx iargs.length cx] 91)) A3 LK:=HG.o.1.below (bA (bR wr) _)
     have hbI:Ints (wr.alloc (.cells #[.int .u8 ik,.int .u8 iop,.int .i64 id,.int .i64 ia,.int .i64 ibb,.int .i64 inn,.slice Bx iargs.length cx] 91)) Bx iargs:=Row.below HIa.o.1 (bA (bR wr) _)
     obtain⟨q,hqq⟩:∃ q,q=wr.heap.size:=⟨_,rfl⟩
     rw[←hqq] at hq⊢
     clear hqq z0 z1 z2 z3 z4 z5 z6 y0 hyz hib
     generalize wr.alloc (.cells #[.int .u8 ik,.int .u8 iop,.int .i64 id,.int .i64 ia,.int .i64 ibb,.int .i64 inn,.slice Bx iargs.length cx] 91)=W at *
     have hput:=putB A3 c3 LK ik W (hbG) (by omega) (by omega)
     refine hput.mono ?_
     rintro e Y3 ⟨hb,V,rfl,A3,c3,rfl,k1,k2,k3⟩
     obtain⟨L3,hL3⟩:∃ z,z=LK++leb ik:=⟨_,rfl⟩
     rw[←hL3] at k1 k2⊢
     have hn3:(leb ik).length≤10:=leb_len10 (by omega)
     have hl3:L3.length≤1030+40100*j+100*k:=by rw[hL3,List.length_append];omega
     have HN3:=Hm (And.intro (bT (hbW) hb) (And.intro k1 (And.intro k2 (λ(a:Addr) (ha:A3=some a)=>(show w.heap.size≤a.block from by have:=k3 a ha;have:=(hbW).size;omega)))))
     have HLe3:=Hm hL3
     clear hput k1 k2 k3 hL3 hn3
     have hq3:=bHeap hb hq
     have hI3:=Row.below hbI hb
     have q0:Y3.cell? ⟨q,0,none⟩=some (.int .u8 ik):=cell_at hq3
     have hqz:=hlt hq3
     have HQ3:=Hm (And.intro hq3 hI3)
     clear hb hq hbI hbW hbG hq3 hI3 HG
     go_wp2_with fail
     refine(names_any ik hik1 hik8 _).mono ?_
     rintro e Y4 ⟨rfl,hb4⟩
     have HN4:=Hm (And.intro (bT HN3.o.1 hb4) (And.intro (HN3.o.2.1.below hb4) HN3.o.2.2))
     have HQ4:=Hm (And.intro (bHeap hb4 HQ3.o.1) (Row.below HQ3.o.2 hb4))
     have hnm:=name_mem ik
     have HNm:=Hm hnm
     obtain⟨nm,hnme⟩:∃ nm,nm=nameL ik:=⟨_,rfl⟩
     have hn4:nm.length≤4:=by rw[hnme];exact name_len ik
     rw[←hnme] at HNm HTk2⊢
     have hns:ByteArray.size ⟨nm.toArray⟩=nm.length:=by simp[ByteArray.size]
     clear hb4 hnm hnme q0 hqz HQ3 HN3
     go_wp2_with fail
     go_loopw [0,9] (λv i wr=>∃ (t:Nat),t≤nm.length∧i=.int .i64 t∧Bel w wr∧wr.heap[q]?=some (.cells ([.int .u8 ik,.int .u8 iop,.int .i64 id,.int .i64 ia,.int .i64 ibb,.int .i64 inn,.slice Bx iargs.length cx]:List Value).toArray 91 (0,0))∧Ints wr Bx iargs∧NewB w wr v (L3++(nm.take t).flatMap (fldI ⟨ik,iop,id,ia,ibb,inn,iargs⟩))) (λ_ i _=>nm.length-(intOf i).toNat)
     case atStart=>exact⟨0,Nat.zero_le _,rfl,HN4.o.1,HQ4.o.1,HQ4.o.2,A3,c3,by simp,by simpa using HN4.o.2.1,by simpa using HN4.o.2.2.1,HN4.o.2.2.2⟩
     case round =>
      obtain⟨t,ht,rfl,hb,hq,hIa,A5,c5,rfl,g1,g2,g3⟩:=hrel
      have HW5:=Hm (And.intro hb (And.intro hq hIa))
      have HG5:=Hm (And.intro g1 (And.intro g2 g3))
      obtain⟨q0,q1,q2,q3,q4,q5,q6⟩:=cC7 hq
      have hqz:=hlt hq
      have hlt5:((nm.take t).flatMap (fldI ⟨ik,iop,id,ia,ibb,inn,iargs⟩)).length≤200:=fldI_len _ (by simp;omega) hlen HAr.o.1 HAr.o.2 (by dsimp only;omega) (by dsimp only;omega) (by dsimp only;omega) (by dsimp only;omega)
      clear hb hq hIa g1 g2 g3
      by_cases htt:t < nm.length
      ·have hfm:L3++(nm.take (t+1)).flatMap (fldI ⟨ik,iop,id,ia,ibb,inn,iargs⟩)=(L3++(nm.take t).flatMap (fldI ⟨ik,iop,id,ia,ibb,inn,iargs⟩))++fldL iop id ia ibb inn iargs nm[t].toNat:=by rw[take_snoc' nm t htt,List.flatMap_append];simp[fldI]
       have hcm:=HNm.o _ (List.getElem_mem htt)
       have hix:(nm.toArray[t]?)=some nm[t]:=by simp
       have HFm:=Hm hfm
       have hl5:(L3++(nm.take t).flatMap (fldI ⟨ik,iop,id,ia,ibb,inn,iargs⟩)).length≤1000000:=by rw[List.length_append];omega
       generalize hcc:nm[t]=cch at *
       generalize L3++(nm.take t).flatMap (fldI ⟨ik,iop,id,ia,ibb,inn,iargs⟩)=L5 at *
       clear hfm hlt5
       go_wp2_with fail
       refine rgn [.rd 0,.rd 1,.rd 2,.rd 3,.rd 4,.hv 5 [],.rd 6] (n:=103) rfl ?_
       iterate 5 (refine line_rd rfl (λK hK=>?_);go_simp;refine hK _ ?_;clear hK K)
       refine line_hv rfl ?_
       go_wp2_with fail
       have hix2:({ data:=nm.toArray }:ByteArray)[t]'(by rw[hns];exact htt)=cch:=by show nm.toArray[t]=cch;simpa using hcc
       rw[hix2]
       have hfld:=field_any L5 A5 c5 ik iop id ia ibb inn iargs (by omega) (by omega) (by omega) (by omega) HAr.o.2.1 HAr.o.2.2 hlen HAr.o.1 cch.toNat hcm Bx cx wr.drew (Row.below HW5.o.2.2 (bD (bR wr))) (HG5.o.1.below (bD (bR wr))) hl5
       refine hfld.mono ?_
       rintro e Y6 ⟨hb,V,rfl,A6,c6,rfl,k1,k2,k3⟩
       obtain⟨L6,hL6⟩:∃ z,z=L5++fldL iop id ia ibb inn iargs cch.toNat:=⟨_,rfl⟩
       rw[←hL6] at k1 k2 HFm⊢
       have HN6:=Hm (And.intro (bT HW5.o.1 (bU hb)) (And.intro (bHeap (bU hb) HW5.o.2.1) (And.intro (Row.below HW5.o.2.2 (bU hb)) (And.intro k1 (And.intro k2 (λ(a:Addr) (ha:A6=some a)=>(show w.heap.size≤a.block from by have:=k3 a ha;have h9:wr.drew.heap.size=wr.heap.size:=rfl;have:=HW5.o.1.size;omega)))))))
       clear hb k1 k2 k3 hfld hL6 q0 q1 q2 q3 q4 q5 q6 hqz HG5
       go_wp2_with fail
       refine⟨?_,?_⟩
       ·exact trivial
       iterate 1 (refine line_rd rfl (λK hK=>?_);go_simp;refine hK _ ?_;clear hK K)
       unfold Line
       go_wp2_with fail
       go_roundw
       case rel=>exact⟨t+1,by omega,by go_num,HN6.o.1,HN6.o.2.1,HN6.o.2.2.1,by rw[HFm.o];exact⟨A6,c6,rfl,HN6.o.2.2.2.1,HN6.o.2.2.2.2.1,HN6.o.2.2.2.2.2⟩⟩
       case measure=>simp[intOf];omega
      ·obtain rfl:t=nm.length:=by omega
       rw[List.take_length] at *
       have hfin:L3++nm.flatMap (fldI ⟨ik,iop,id,ia,ibb,inn,iargs⟩)=L2++(yi.take (k+1)).flatMap encIns:=by rw[HTk2.o,HLe3.o,List.append_assoc]
       rw[hfin] at HG5⊢
       have HFi:=Hm hfin
       clear hfin hlt5
       go_wp2_with fail
       go_roundw
       case rel=>exact⟨k+1,by omega,by go_num,HW5.o.1,A5,c5,rfl,HG5.o.1,HG5.o.2.1,HG5.o.2.2⟩
       case measure=>simp[intOf];omega
    ·obtain rfl:k=yi.length:=by omega
     rw[List.take_length] at *
     have x1:=bCell HW.o HXw.o.2.1
     have x2:=bCell HW.o HXw.o.2.2.1
     have x3:=bCell HW.o HXw.o.2.2.2.1
     have x4:=bCell HW.o HXw.o.2.2.2.2
     have hen:LL++encBlock ⟨yi,⟨yk,ya,yt,ye⟩⟩=(L2++yi.flatMap encIns)++encEnd ⟨yk,ya,yt,ye⟩:=by rw[HLe2.o];simp[encBlock,flatL]
     have hLI:(L2++yi.flatMap encIns).length≤1020+40100*j+40000:=by rw[List.length_append];omega
     rw[←HTk.o] at hen
     have HEn:=Hm hen
     generalize L2++yi.flatMap encIns=LI at *
     obtain⟨yk,rfl⟩:=Int.eq_ofNat_of_zero_le (show 0≤yk by omega)
     obtain⟨ya,rfl⟩:=Int.eq_ofNat_of_zero_le hea.1
     obtain⟨yt,rfl⟩:=Int.eq_ofNat_of_zero_le het.1
     obtain⟨ye,rfl⟩:=Int.eq_ofNat_of_zero_le hel.1
     have twa:IntKind.u64.wrap (ya:Int)=ya:=wrap_u64 _ (by omega)
     have twt:IntKind.u64.wrap (yt:Int)=yt:=wrap_u64 _ (by omega)
     have twe:IntKind.u64.wrap (ye:Int)=ye:=wrap_u64 _ (by omega)
     have twk:IntKind.u64.wrap (yk:Int)=yk:=wrap_u64 _ (by omega)
     clear hen
     go_wp2_with fail
     have hq:(wr.alloc (.cells #[.int .u8 yk,.int .i64 ya,.int .i64 yt,.int .i64 ye] 95)).heap[wr.heap.size]?=some (.cells ([.int .u8 yk,.int .i64 ya,.int .i64 yt,.int .i64 ye]:List Value).toArray 95 (0,0)):=hnew rfl
     have hbW:Bel w (wr.alloc (.cells #[.int .u8 yk,.int .i64 ya,.int .i64 yt,.int .i64 ye] 95)):=bA HW.o _
     have hbG:Bytes (wr.alloc (.cells #[.int .u8 yk,.int .i64 ya,.int .i64 yt,.int .i64 ye] 95)) A3 LI:=HG.o.1.below (bA (bR wr) _)
     obtain⟨q,hqq⟩:∃ q,q=wr.heap.size:=⟨_,rfl⟩
     rw[←hqq] at hq⊢
     clear hqq y0 hyz x1 x2 x3 x4
     generalize wr.alloc (.cells #[.int .u8 yk,.int .i64 ya,.int .i64 yt,.int .i64 ye] 95)=W at *
     have hput:=putB A3 c3 LI yk W (hbG) (by omega) (by omega)
     refine hput.mono ?_
     rintro e Y4 ⟨hb,V,rfl,A4,c4,rfl,k1,k2,k3⟩
     obtain⟨L4,hL4⟩:∃ z,z=LI++leb yk:=⟨_,rfl⟩
     rw[←hL4] at k1 k2⊢
     have hn4:(leb yk).length≤10:=leb_len10 (by omega)
     have hl4:L4.length≤41030+40100*j:=by rw[hL4,List.length_append];omega
     have HN4:=Hm (And.intro (bT (hbW) hb) (And.intro k1 (And.intro k2 (λ(a:Addr) (ha:A4=some a)=>(show w.heap.size≤a.block from by have:=k3 a ha;have:=(hbW).size;omega)))))
     have HLe4:=Hm hL4
     clear hput k1 k2 k3 hL4 hn4
     have hq4:=bHeap hb hq
     clear hb hq hbW hbG HG
     have hTk:=λ(wx:World)=>refTakes_any ⟨(yk:Int),ya,yt,ye⟩ wx
     dsimp only at hTk
     have hk3:yk=1∨yk=2∨yk=3:=by omega
     rcases hk3 with rfl|rfl|rfl
     ·skip
      obtain⟨q0,q1,q2,q3⟩:=cC4 hq4
      have hqz:=hlt hq4
      go_wp2_with fail
      refine(hTk _).mono ?_
      rintro e Y7 ⟨rfl,hb7⟩
      have HN7:=Hm (And.intro (bT HN4.o.1 hb7) (And.intro (HN4.o.2.1.below hb7) HN4.o.2.2))
      have hq7:=bHeap hb7 hq4
      clear hb7 q0 q1 q2 q3 hqz
      obtain⟨q0,q1,q2,q3⟩:=cC4 hq7
      have hqz:=hlt hq7
      go_wp2_with fail
      have hput:=putB A4 c4 L4 yt Y7 (HN7.o.2.1) (by omega) (by omega)
      refine hput.mono ?_
      rintro e Y5 ⟨hb,V,rfl,A5,c5,rfl,k1,k2,k3⟩
      obtain⟨L5,hL5⟩:∃ z,z=L4++leb yt:=⟨_,rfl⟩
      rw[←hL5] at k1 k2⊢
      have hn5:(leb yt).length≤10:=leb_len10 (by omega)
      have hl5:L5.length≤41040+40100*j:=by rw[hL5,List.length_append];omega
      have HN5:=Hm (And.intro (bT (HN7.o.1) hb) (And.intro k1 (And.intro k2 (λ(a:Addr) (ha:A5=some a)=>(show w.heap.size≤a.block from by have:=k3 a ha;have:=(HN7.o.1).size;omega)))))
      have HLe5:=Hm hL5
      clear hput k1 k2 k3 hL5 hn5
      have hq5:=bHeap hb hq7
      clear hb q0 q1 q2 q3 hqz
      obtain⟨q0,q1,q2,q3⟩:=cC4 hq5
      have hqz:=hlt hq5
      go_wp2_with fail
      go_roundw
      case rel =>
       have e:L1++(l.take (j+1)).flatMap encBlock=L5:=by rw[HEn.o,HLe5.o,HLe4.o];simp[encEnd,flatL]
       exact⟨j+1,by omega,by go_num,HN5.o.1,by rw[e];exact⟨A5,c5,rfl,HN5.o.2.1,HN5.o.2.2.1,HN5.o.2.2.2⟩⟩
      case measure=>simp[intOf];omega
     ·skip
      obtain⟨q0,q1,q2,q3⟩:=cC4 hq4
      have hqz:=hlt hq4
      go_wp2_with fail
      refine(hTk _).mono ?_
      rintro e Y7 ⟨rfl,hb7⟩
      have HN7:=Hm (And.intro (bT HN4.o.1 hb7) (And.intro (HN4.o.2.1.below hb7) HN4.o.2.2))
      have hq7:=bHeap hb7 hq4
      clear hb7 q0 q1 q2 q3 hqz
      obtain⟨q0,q1,q2,q3⟩:=cC4 hq7
      have hqz:=hlt hq7
      go_wp2_with fail
      have hput:=putB A4 c4 L4 ya Y7 (HN7.o.2.1) (by omega) (by omega)
      refine hput.mono ?_
      rintro e Y6 ⟨hb,V,rfl,A6,c6,rfl,k1,k2,k3⟩
      obtain⟨L6,hL6⟩:∃ z,z=L4++leb ya:=⟨_,rfl⟩
      rw[←hL6] at k1 k2⊢
      have hn6:(leb ya).length≤10:=leb_len10 (by omega)
      have hl6:L6.length≤41040+40100*j:=by rw[hL6,List.length_append];omega
      have HN6:=Hm (And.intro (bT (HN7.o.1) hb) (And.intro k1 (And.intro k2 (λ(a:Addr) (ha:A6=some a)=>(show w.heap.size≤a.block from by have:=k3 a ha;have:=(HN7.o.1).size;omega)))))
      have HLe6:=Hm hL6
      clear hput k1 k2 k3 hL6 hn6
      have hq6:=bHeap hb hq7
      clear hb q0 q1 q2 q3 hqz
      obtain⟨q0,q1,q2,q3⟩:=cC4 hq6
      have hqz:=hlt hq6
      go_wp2_with fail
      have hput:=putB A6 c6 L6 yt Y6 (HN6.o.2.1) (by omega) (by omega)
      refine hput.mono ?_
      rintro e Y7 ⟨hb,V,rfl,A7,c7,rfl,k1,k2,k3⟩
      obtain⟨L7,hL7⟩:∃ z,z=L6++leb yt:=⟨_,rfl⟩
      rw[←hL7] at k1 k2⊢
      have hn7:(leb yt).length≤10:=leb_len10 (by omega)
      have hl7:L7.length≤41050+40100*j:=by rw[hL7,List.length_append];omega
      have HN7:=Hm (And.intro (bT (HN6.o.1) hb) (And.intro k1 (And.intro k2 (λ(a:Addr) (ha:A7=some a)=>(show w.heap.size≤a.block from by have:=k3 a ha;have:=(HN6.o.1).size;omega)))))
      have HLe7:=Hm hL7
      clear hput k1 k2 k3 hL7 hn7
      have hq7:=bHeap hb hq6
      clear hb q0 q1 q2 q3 hqz
      obtain⟨q0,q1,q2,q3⟩:=cC4 hq7
      have hqz:=hlt hq7
      go_wp2_with fail
      have hput:=putB A7 c7 L7 ye Y7 (HN7.o.2.1) (by omega) (by omega)
      refine hput.mono ?_
      rintro e Y8 ⟨hb,V,rfl,A8,c8,rfl,k1,k2,k3⟩
      obtain⟨L8,hL8⟩:∃ z,z=L7++leb ye:=⟨_,rfl⟩
      rw[←hL8] at k1 k2⊢
      have hn8:(leb ye).length≤10:=leb_len10 (by omega)
      have hl8:L8.length≤41060+40100*j:=by rw[hL8,List.length_append];omega
      have HN8:=Hm (And.intro (bT (HN7.o.1) hb) (And.intro k1 (And.intro k2 (λ(a:Addr) (ha:A8=some a)=>(show w.heap.size≤a.block from by have:=k3 a ha;have:=(HN7.o.1).size;omega)))))
      have HLe8:=Hm hL8
      clear hput k1 k2 k3 hL8 hn8
      have hq8:=bHeap hb hq7
      clear hb q0 q1 q2 q3 hqz
      obtain⟨q0,q1,q2,q3⟩:=cC4 hq8
      have hqz:=hlt hq8
      go_wp2_with fail
      go_roundw
      case rel =>
       have e:L1++(l.take (j+1)).flatMap encBlock=L8:=by rw[HEn.o,HLe8.o,HLe7.o,HLe6.o,HLe4.o];simp[encEnd,flatL]
       exact⟨j+1,by omega,by go_num,HN8.o.1,by rw[e];exact⟨A8,c8,rfl,HN8.o.2.1,HN8.o.2.2.1,HN8.o.2.2.2⟩⟩
      case measure=>simp[intOf];omega
     ·skip
      obtain⟨q0,q1,q2,q3⟩:=cC4 hq4
      have hqz:=hlt hq4
      go_wp2_with fail
      refine(hTk _).mono ?_
      rintro e Y7 ⟨rfl,hb7⟩
      have HN7:=Hm (And.intro (bT HN4.o.1 hb7) (And.intro (HN4.o.2.1.below hb7) HN4.o.2.2))
      have hq7:=bHeap hb7 hq4
      clear hb7 q0 q1 q2 q3 hqz
      obtain⟨q0,q1,q2,q3⟩:=cC4 hq7
      have hqz:=hlt hq7
      go_wp2_with fail
      have hput:=putB A4 c4 L4 ya Y7 (HN7.o.2.1) (by omega) (by omega)
      refine hput.mono ?_
      rintro e Y9 ⟨hb,V,rfl,A9,c9,rfl,k1,k2,k3⟩
      obtain⟨L9,hL9⟩:∃ z,z=L4++leb ya:=⟨_,rfl⟩
      rw[←hL9] at k1 k2⊢
      have hn9:(leb ya).length≤10:=leb_len10 (by omega)
      have hl9:L9.length≤41040+40100*j:=by rw[hL9,List.length_append];omega
      have HN9:=Hm (And.intro (bT (HN7.o.1) hb) (And.intro k1 (And.intro k2 (λ(a:Addr) (ha:A9=some a)=>(show w.heap.size≤a.block from by have:=k3 a ha;have:=(HN7.o.1).size;omega)))))
      have HLe9:=Hm hL9
      clear hput k1 k2 k3 hL9 hn9
      have hq9:=bHeap hb hq7
      clear hb q0 q1 q2 q3 hqz
      obtain⟨q0,q1,q2,q3⟩:=cC4 hq9
      have hqz:=hlt hq9
      go_wp2_with fail
      go_roundw
      case rel =>
       have e:L1++(l.take (j+1)).flatMap encBlock=L9:=by rw[HEn.o,HLe9.o,HLe4.o];simp[encEnd,flatL]
       exact⟨j+1,by omega,by go_num,HN9.o.1,by rw[e];exact⟨A9,c9,rfl,HN9.o.2.1,HN9.o.2.2.1,HN9.o.2.2.2⟩⟩
      case measure=>simp[intOf];omega
  ·obtain rfl:j=l.length:=by omega
   rw[List.take_length] at HG⊢
   have e:L1++l.flatMap encBlock=LF:=by rw[HLF.o,HLe1.o]
   rw[e] at HG⊢
   clear e
   go_wp2_with fail
   go_ret
   exact⟨HW.o,_,rfl,A2,c2,rfl,HG.o.1,HG.o.2.1,HG.o.2.2⟩
theorem codeBytes_any (c:Code) (h:CodeOk c) (hf:∀ b∈c.blocks,BlockFine b) (ok:Nat→Prop) (lv:Value) (w:World) (hv:Kd.SK kBlock w ok c.blocks lv) :
  Calls Tryz.prog 25 #[.agg #[.int .i64 c.params,.int .i64 c.regs,.int .i64 c.slots,lv]] w (RefB w (encCode c)):=by
 have h16:=h.n16
 have HBy:=Hm (λ(wx:World) (hx:Bel w wx) (L:List UInt8) (A:Option Addr) (ca:Nat) (hA:Bytes wx A L) (hl:L.length≤1000)=>bytes_any L A ca c.blocks h.n16 hf ok lv wx (sk_bel hv hx) hA hl)
 obtain⟨B,cb,rfl,-,-⟩:=sk_form hv
 obtain⟨cp,hcp⟩:=Int.eq_ofNat_of_zero_le h.p0
 obtain⟨cr,hcr⟩:=Int.eq_ofNat_of_zero_le (show 0≤c.regs by have:=h.r3;omega)
 obtain⟨cs,hcs⟩:=Int.eq_ofNat_of_zero_le (show 0≤c.slots by have:=h.p0;have:=h.ps;omega)
 have hb1:=h.p4;have hb2:=h.r8;have hb3:=h.s64
 have HQ:Hd (encCode c=((([]++leb cp)++leb cr)++leb cs)++encBlocks c.blocks):=⟨by unfold encCode;rw[hcp,hcr,hcs];simp[flatL]⟩
 rw[HQ.o]
 rw[hcp] at hb1⊢
 rw[hcr] at hb2⊢
 rw[hcs] at hb3⊢
 clear hv hcp hcr hcs h hf
 have t1:IntKind.u64.wrap (cp:Int)=cp:=wrap_u64 _ (by omega)
 have t2:IntKind.u64.wrap (cr:Int)=cr:=wrap_u64 _ (by omega)
 have t3:IntKind.u64.wrap (cs:Int)=cs:=wrap_u64 _ (by omega)
 have hq:(w.alloc (.cells #[.int .i64 cp,.int .i64 cr,.int .i64 cs,.slice B c.blocks.length cb] 59)).heap[w.heap.size]?=some (.cells ([.int .i64 cp,.int .i64 cr,.int .i64 cs,.slice B c.blocks.length cb]:List Value).toArray 59 (0,0)):=hnew rfl
 have HC:=Hm hq
 obtain⟨LF,hLF⟩:∃ LF,LF=((([]++leb cp)++leb cr)++leb cs)++encBlocks c.blocks:=⟨_,rfl⟩
 rw[←hLF]
 have HLF:=Hm hLF
 clear hLF hq
 unfold RefB
 go_enter Tryz.func25,Tryz.ntmps25
 go_wp2_with fail
 refine rgn [.rd 0,.rd 1,.rd 2,.rd 4,.rd 5,.rd 6,.hv 3 [4,5,6],.hv 7 [],.rd 8] (n:=20) rfl ?_
 iterate 6 (refine line_rd rfl (λK hK=>?_);go_simp;refine hK _ ?_;clear hK K)
 refine line_hv rfl ?_
 go_wp2_with fail
 have hput:=putB none 0 [] cp (w.alloc (.cells #[.int .i64 cp,.int .i64 cr,.int .i64 cs,.slice B c.blocks.length cb] 59)).drew (Bytes.nil _ _) (by simp) (by omega)
 refine hput.mono ?_
 rintro e Y1 ⟨hb,V,rfl,A1,c1,rfl,k1,k2,k3⟩
 obtain⟨L1,hL1⟩:∃ z,z=[]++leb cp:=⟨_,rfl⟩
 rw[←hL1] at k1 k2 HLF⊢
 have hn1:L1.length≤10:=by rw[hL1];simpa using leb_len10 (n:=cp) (by omega)
 have HN1:=Hm (And.intro (bT (bA (bR w) _) (bU hb)) (And.intro k1 (And.intro k2 (bHeap (bU hb) HC.o))))
 obtain⟨q0,q1⟩:=cC2 HN1.o.2.2.2
 have hqz:=hlt HN1.o.2.2.2
 clear hput hb k1 k2 k3 hL1
 go_wp2_with fail
 refine⟨?_,?_⟩
 ·simp only[Again,slotOf]
  go_simp
 refine line_hv rfl ?_
 go_wp2_with fail
 have hput:=putB A1 c1 L1 cr Y1 HN1.o.2.1 (by omega) (by omega)
 refine hput.mono ?_
 rintro e Y2 ⟨hb,V,rfl,A2,c2,rfl,k1,k2,k3⟩
 obtain⟨L2,hL2⟩:∃ z,z=L1++leb cr:=⟨_,rfl⟩
 rw[←hL2] at k1 k2 HLF⊢
 have hn2:L2.length≤20:=by have:=leb_len10 (n:=cr) (by omega);rw[hL2,List.length_append];omega
 have HN2:=Hm (And.intro (bT HN1.o.1 hb) (And.intro k1 (And.intro k2 (bHeap hb HN1.o.2.2.2))))
 clear hput hb k1 k2 k3 hL2 q0 q1 hqz
 obtain⟨-,-,q2,q3⟩:=cC4 HN2.o.2.2.2
 have hqz:=hlt HN2.o.2.2.2
 go_wp2_with fail
 refine⟨?_,?_⟩
 ·exact trivial
 iterate 1 (refine line_rd rfl (λK hK=>?_);go_simp;refine hK _ ?_;clear hK K)
 unfold Line
 go_wp2_with fail
 refine rgn [.rd 0,.rd 1,.rd 2,.rd 3,.rd 5,.rd 6,.hv 4 [5,6],.hv 7 [],.rd 8] (n:=20) rfl ?_
 iterate 6 (refine line_rd rfl (λK hK=>?_);go_simp;refine hK _ ?_;clear hK K)
 refine line_hv rfl ?_
 go_wp2_with fail
 have hput:=putB A2 c2 L2 cs Y2.drew (HN2.o.2.1.below (bD (bR Y2))) (by omega) (by omega)
 refine hput.mono ?_
 rintro e Y3 ⟨hb,V,rfl,A3,c3,rfl,k1,k2,k3⟩
 obtain⟨L3,hL3⟩:∃ z,z=L2++leb cs:=⟨_,rfl⟩
 rw[←hL3] at k1 k2 HLF⊢
 have hn3:L3.length≤30:=by have:=leb_len10 (n:=cs) (by omega);rw[hL3,List.length_append];omega
 have HN3:=Hm (And.intro (bT HN2.o.1 (bU hb)) (And.intro k1 (And.intro k2 (bHeap (bU hb) HN2.o.2.2.2))))
 clear hput hb k1 k2 k3 hL3 q2 q3 hqz
 have q3:Y3.cell? ⟨w.heap.size,3,none⟩=some (.slice B c.blocks.length cb):=cell_at HN3.o.2.2.2
 have hqz:=hlt HN3.o.2.2.2
 go_wp2_with fail
 refine⟨?_,?_⟩
 ·simp only[Again,slotOf]
  go_simp
 refine line_hv rfl ?_
 go_wp2_with fail
 have hby:=HBy.o Y3 HN3.o.1 L3 A3 c3 HN3.o.2.1 (by omega)
 rw[←HLF.o] at hby
 refine hby.mono ?_
 rintro e Y4 ⟨hb,V,rfl,A4,c4,rfl,k1,k2,k3⟩
 have HN4:=Hm (And.intro (bT HN3.o.1 hb) (And.intro k1 (And.intro k2 (λ(a:Addr) (ha:A4=some a)=>(show w.heap.size≤a.block from by have:=k3 a ha;have:=HN3.o.1.size;omega)))))
 clear hby hb k1 k2 k3 q3 hqz
 go_wp2_with fail
 refine⟨?_,?_⟩
 ·exact trivial
 iterate 1 (refine line_rd rfl (λK hK=>?_);go_simp;refine hK _ ?_;clear hK K)
 unfold Line
 go_wp2_with fail
 go_ret
 exact⟨HN4.o.1,_,rfl,A4,c4,rfl,HN4.o.2.1,HN4.o.2.2.1,HN4.o.2.2.2⟩
end Go.Proofs.YtjkgligohegaeaaGreatDoor
