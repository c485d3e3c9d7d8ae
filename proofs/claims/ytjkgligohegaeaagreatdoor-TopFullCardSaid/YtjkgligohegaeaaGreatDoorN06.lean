/- Lemmas of the row. -/
import Derived.Test.YtjkgligohegaeaaGreatDoorN05
set_option linter.all false
set_option maxRecDepth 20000
set_option maxHeartbeats 12800000
namespace Go.Proofs.YtjkgligohegaeaaGreatDoor
open Go.RowKit
def NewB (w w':World) (v:Value) (l:List UInt8):Prop:=∃ A ca,v=.slice A l.length ca∧Bytes w' A l∧l.length≤ca∧∀ a,A=some a→w.heap.size≤a.block
theorem NewB.ofOwn {w w':World} {v:Value} {l:List UInt8} (h:OwnB w' w.heap.size v l):NewB w w' v l:=by
 obtain⟨A,c,rfl,hrow,hl,hbase,hcap,_⟩:=own_row h
 exact⟨A,c,rfl,hrow,hcap,hbase⟩
theorem NewB.base {w w1 w2:World} {v:Value} {l:List UInt8} (h:NewB w1 w2 v l) (hb:Bel w w1):NewB w w2 v l:=by
 obtain⟨A,ca,e,h1,h2,h3⟩:=h
 exact⟨A,ca,e,h1,h2,λa ha=>Nat.le_trans hb.size (h3 a ha)⟩
theorem WrAt.newB {w w':World} {p:Nat} {l:List UInt8} (h:WrAt w' p l) (hp:w.heap.size≤p):∃ A ca,WrIn w' p l A ca∧NewB w w' (.slice A l.length ca) l:=by
 obtain⟨A,ca,h⟩:=h
 exact⟨A,ca,h,A,ca,rfl,h.bytes,h.cap,λa ha=>by have:=h.ne a ha;omega⟩
theorem sk_lt {α:Type} {k:Kd α} {w:World} {ok:Nat→Prop} {l:List α} {v:Value} (h:Kd.SK k w ok l v):Kd.SK k w (λb=>b < w.heap.size) l v:=h.stay λb _ hb=>⟨hb,rfl⟩
theorem wr_new (w:World):WrAt (w.alloc (.cells #[.slice none 0 0] 229)) w.heap.size []:=⟨none,0,heap_new _ _,Bytes.nil _ _,(λa h=>by cases h),Nat.le_refl _⟩
theorem run_fault (x y z:Int) (w:World):(Instr.field 193 (.agg #[.int .i64 x,.int .i64 y,.int .i64 z]) 0).run Tryz.prog w=.ok (.int .i64 x) w:=by kernel_rfl
def encCode (c:Code):List UInt8:=flatL [c.params,c.regs,c.slots]++encBlocks c.blocks
theorem wcode_any (f:Code) (h:CodeOk f) (hf:∀ b∈f.blocks,BlockFine b) (ok:Nat→Prop) (v:Value) (w:World) (hv:Kd.SK kBlock w ok f.blocks v) :
  Calls Tryz.prog 81 #[.agg #[.int .i64 f.params,.int .i64 f.regs,.int .i64 f.slots,v]] w λe w'=>Bel w w'∧∃ V,e=.returned (.tuple #[V,.int .i64 0])∧NewB w w' V (encCode f):=by
 have HCk:=Hm (λ(w':World) (hb:Bel w w')=>mcheck_ok f h ok v w' (sk_bel hv hb))
 have HV:=Hm (sk_lt hv)
 have HF:=Hm (And.intro hf h.n16)
 have hs3:∀ x∈[f.params,f.regs,f.slots],0≤x∧x < 4294967296:=by
  have h1:=h.p0;have h2:=h.p4;have h3:=h.r3;have h4:=h.r8;have h5:=h.ps;have h6:=h.s64
  simp only[List.mem_cons,List.not_mem_nil,or_false]
  rintro x (rfl|rfl|rfl)<;>omega
 have HS3:=Hm hs3
 obtain⟨params,regs,slots,blocks⟩:=f
 obtain⟨A,c,rfl,-,-⟩:=sk_form hv
 simp only at *
 clear h hf hv hs3
 have hfld:=run_fault
 go_enter Tryz.func81,Tryz.ntmps81
 go_wp2_with fail
 refine(HCk.o _ (bA (bR _) _)).mono ?_
 rintro e w1 ⟨rfl,hb1⟩
 have HB1:=Hm (bUA hb1)
 obtain⟨w0,hw0⟩:∃ w0,w0=w.alloc (.cells #[.int .i64 params,.int .i64 regs,.int .i64 slots,.slice A blocks.length c] 59):=⟨_,rfl⟩
 have q0:w1.cell? ⟨w.heap.size,0,none⟩=some (.int .i64 params):=bCell hb1 (by go_simp)
 have q1:w1.cell? ⟨w.heap.size,1,none⟩=some (.int .i64 regs):=bCell hb1 (by go_simp)
 have q2:w1.cell? ⟨w.heap.size,2,none⟩=some (.int .i64 slots):=bCell hb1 (by go_simp)
 have q3:w1.cell? ⟨w.heap.size,3,none⟩=some (.slice A blocks.length c):=bCell hb1 (by go_simp)
 have hz1:w.heap.size < w1.heap.size:=by have:=hb1.size;simp at this;omega
 have HW2:=Hm (wr_new w1)
 have HQ2:Hd ((w1.alloc (.cells #[.slice none 0 0] 229)).cell? ⟨w.heap.size,3,none⟩=some (.slice A blocks.length c)):=⟨bCell (bA (bR _) _) q3⟩
 clear hb1 hw0
 go_wp2_with fail
 refine(nums_lit w1.heap.size [] [params,regs,slots] _ (w1.heap.size+1) _ (by simp) rfl HW2.o HS3.o (by simp)).mono ?_
 rintro e w3 ⟨rfl,hs⟩
 have hne:w.heap.size≠w1.heap.size:=by omega
 have q3':=gOne hs.grown hne HQ2.o
 have HS:=Hm hs
 have HL:Hd (([]++flatL [params,regs,slots]:List UInt8).length≤1000):=⟨by
  have:=flatL_len _ HS3.o
  simp only[List.nil_append,List.length_cons,List.length_nil] at *;omega⟩
 clear hs q0 q1 q2 q3
 have HV3:=Hm ((sk_bel HV.o (bT HB1.o (bA (bR w1) (.cells #[.slice none 0 0] 229)))).stay (Stays.grown HS.o.grown λb hb e=>by simp at e;have:=HB1.o.size;omega))
 go_wp2_with fail
 refine(wblocks_any w1.heap.size _ blocks (λb=>b < w.heap.size) _ w3 HS.o.wr (λb hb=>by have:=HB1.o.size;omega) HV3.o HF.o.1 HF.o.2 HL.o).mono ?_
 rintro e w4 ⟨rfl,hs4⟩
 obtain⟨A4,ca4,hw4,hn4⟩:=hs4.wr.newB (w:=w) (Nat.le_of_lt hz1)
 have HB4:Hd (Bel w w4):=⟨HB1.o.trans ((bA (bR w1) _).mono HB1.o.size) |>.grown (grownBy_trans HS.o.grown hs4.grown) (by have:=HB1.o.size;simp;omega) (λk hk=>by cases hk;exact HB1.o.size)⟩
 have HN4:=Hm hn4
 have x0:=hw4.c0
 clear hs4 hw4 hn4 q3'
 go_wp2
 go_ret2
 exact⟨HB4.o,_,rfl,by simpa [encCode] using HN4.o⟩
def PairFine (p:PairV):Prop:=0≤p.v∧p.v < 4096∧0≤p.l∧p.l < 4096
def encPair (p:PairV):List UInt8:=flatL [p.v,p.l]
def encPairs (l:List PairV):List UInt8:=flatL [(l.length:Int)]++l.flatMap encPair
def encCert (l:List (List PairV)):List UInt8:=flatL [(l.length:Int)]++l.flatMap encPairs
structure PairsFine (l:List PairV):Prop where
 len:l.length≤500
 all:∀ p∈l,PairFine p
theorem encPair_len {p:PairV} (h:PairFine p):(encPair p).length≤20:=by
 have:=flatL_len [p.v,p.l] (by unfold PairFine at h;simp;omega)
 simpa [encPair] using this
theorem flatPair_len:∀ (l:List PairV),(∀ p∈l,PairFine p)→(l.flatMap encPair).length≤20*l.length
 |[],_=>by simp
 |b :: l,h=>by
  have h1:=encPair_len (h b (by simp))
  have h2:=flatPair_len l λm hm=>h m (by simp[hm])
  simp only[List.flatMap_cons,List.length_append,List.length_cons] at *
  omega
theorem encPairs_len {l:List PairV} (h:PairsFine l):(encPairs l).length≤10010:=by
 have h1:=flatL_len [(l.length:Int)] (by have:=h.len;simp;omega)
 have h2:=flatPair_len l h.all
 have h3:=h.len
 simp only[encPairs,List.length_append,List.length_cons,List.length_nil] at *
 omega
theorem flatPairs_len:∀ (l:List (List PairV)),(∀ p∈l,PairsFine p)→(l.flatMap encPairs).length≤10010*l.length
 |[],_=>by simp
 |b :: l,h=>by
  have h1:=encPairs_len (h b (by simp))
  have h2:=flatPairs_len l λm hm=>h m (by simp[hm])
  simp only[List.flatMap_cons,List.length_append,List.length_cons] at *
  omega
abbrev kPairs:Kd (List PairV):=Kd.slice kPair
theorem sk_pairs {w:World} {ok:Nat→Prop} {l:List (List PairV)} {v:Value} (h:Kd.SK kPairs w ok l v) (j:Nat) (hj:j < l.length):∃ b off c v1,v=.slice (some ⟨b,off,none⟩) l.length c∧ok b∧Kd.SK kPair w ok l[j] v1∧w.cell? ⟨b,off+j,none⟩=some v1:=by
 obtain⟨b,off,c,cs,rfl,_,ho,_,⟨v1,rfl,hs⟩,hc⟩:=h.at_ j hj
 have h0:=hc 0 Nat.one_pos
 refine⟨b,off,c,v1,rfl,ho,hs,?_⟩
 have e:off+j*kPairs.size+0=off+j:=by show off+j*1+0=_;omega
 rw[e] at h0
 exact h0
theorem sk_pair {w:World} {ok:Nat→Prop} {l:List PairV} {v:Value} (h:Kd.SK kPair w ok l v) (j:Nat) (hj:j < l.length):∃ b off c,v=.slice (some ⟨b,off,none⟩) l.length c∧ok b∧w.cell? ⟨b,off+j*2,none⟩=some (.int .i64 l[j].v)∧w.cell? ⟨b,off+j*2+1,none⟩=some (.int .i64 l[j].l):=by
 obtain⟨b,off,c,cs,rfl,_,ho,_,hk,hc⟩:=h.at_ j hj
 obtain⟨_,_,rfl⟩:=kPair_open hk
 exact⟨b,off,c,rfl,ho,hc 0 (by decide),hc 1 (by decide)⟩
theorem wcert_any (ls:List (List PairV)) (h16:ls.length≤16) (hf:∀ l∈ls,PairsFine l) (ok:Nat→Prop) (v:Value) (w:World) (hv:Kd.SK kPairs w ok ls v) :
  Calls Tryz.prog 82 #[v] w λe w'=>Bel w w'∧∃ V,e=.returned (.tuple #[V,.int .i64 0])∧NewB w w' V (encCert ls):=by
 obtain⟨A,c,rfl,-,-⟩:=sk_form hv
 have HV:=Hm (sk_lt hv)
 have HF:=Hm hf
 have HW0:=Hm (wr_new w)
 have h16':¬16 < (ls.length:Int):=by omega
 obtain⟨p,hp⟩:∃ p,p=w.heap.size:=⟨_,rfl⟩
 have HP:=Hm hp
 clear hv hf
 go_enter Tryz.func82,Tryz.ntmps82
 go_wp2_with fail
 refine(nums_lit w.heap.size [] [(ls.length:Int)] _ (w.heap.size+1) _ (by simp) rfl HW0.o (by simp;omega) (by simp)).mono ?_
 rintro e w0 ⟨rfl,hs⟩
 rw[←hp] at hs⊢
 clear hp
 have HS0:=Hm hs
 have HG0:=Hm (grownBy_trans (grownBy_below (row:=some p) (bA (bR w) (.cells #[.slice none 0 0] 229))) hs.grown)
 clear hs
 have HOk:Hd (∀ b,b < w.heap.size→some b≠some p):=⟨λb hb e=>by have:=HP.o;simp at e;omega⟩
 have HL0:Hd (([]++flatL [(ls.length:Int)]:List UInt8).length≤10):=⟨by
  have:=flatL_len [(ls.length:Int)] (by simp;omega)
  simp only[List.nil_append,List.length_cons,List.length_nil] at *;omega⟩
 obtain⟨B0,hB0⟩:∃ B0,([]++flatL [(ls.length:Int)]:List UInt8)=B0:=⟨_,rfl⟩
 have HB0:=Hm hB0
 rw[hB0] at HS0 HL0
 clear hB0
 go_wp2_with fail
 go_loopw [21] (λi wr=>∃ j:Nat,j≤ls.length∧i=.int .i64 j∧w.grownBy wr (some p)∧WrAt wr p (B0++(ls.take j).flatMap encPairs)) (λi _=>ls.length-(intOf i).toNat)
 case atStart=>exact⟨0,Nat.zero_le _,rfl,HG0.o,by simpa using HS0.o.wr⟩
 case round =>
  obtain⟨j,hj,rfl,hg,hw⟩:=hrel
  have HG:=Hm hg
  have HW:=Hm hw
  clear hg hw
  by_cases hlt:j < ls.length
  ·obtain⟨blk,off,c',v1,e,hob,hsk,x0⟩:=sk_pairs (HV.o.stay (Stays.grown HG.o HOk.o)) j hlt
   simp only[Value.slice.injEq] at e
   obtain⟨rfl,-,rfl⟩:=e
   have hx:=HF.o _ (List.getElem_mem hlt)
   have HT:=Hm (fm_snoc encPairs ls j hlt)
   have hBl:(B0++(ls.take j).flatMap encPairs).length≤700000:=by
    have h1:=HL0.o
    have h2:=flatPairs_len (ls.take j) (λb hb=>HF.o b (List.mem_of_mem_take hb))
    simp only[List.length_append,List.length_take] at *
    omega
   have HBl:=Hm hBl
   clear hBl
   generalize ls[j]=x at *
   obtain⟨B,hB⟩:∃ B,B0++(ls.take j).flatMap encPairs=B:=⟨_,rfl⟩
   rw[hB] at HW HBl
   have HBE:=Hm hB
   clear hB
   obtain⟨A1,c1,rfl,-,-⟩:=sk_form hsk
   have HX:=Hm hx
   have HSk:=Hm hsk
   have hx31:x.length≤500:=hx.len
   clear hx hsk
   go_wp2_with fail
   refine(nums_lit p B [(x.length:Int)] _ _ _ rfl rfl HW.o (by simp;omega) (by have:=HBl.o;simp;omega)).mono ?_
   rintro e w2 ⟨rfl,hs⟩
   have HS2:=Hm hs
   have HSk2:=Hm (HSk.o.stay (Stays.grown hs.grown HOk.o))
   have HL2:Hd ((B++flatL [(x.length:Int)]).length≤700010):=⟨by
    have:=flatL_len [(x.length:Int)] (by simp;omega)
    have:=HBl.o
    simp only[List.length_append,List.length_cons,List.length_nil] at *;omega⟩
   clear hs x0
   obtain⟨wo,rfl⟩:∃ wo:World,wo=wr:=⟨_,rfl⟩
   go_wp2_with fail
   go_loopw [32] (λi wr=>∃ k:Nat,k≤x.length∧i=.int .i64 k∧WrStep w2 wr p (B++flatL [(x.length:Int)]++(x.take k).flatMap encPair)) (λi _=>x.length-(intOf i).toNat)
   case atStart=>exact⟨0,Nat.zero_le _,rfl,grownBy_refl _ _,by simpa using HS2.o.wr⟩
   case round =>
    obtain⟨k,hk,rfl,hs⟩:=hrel
    have HSi:=Hm hs
    clear hs
    have hLi:(B++flatL [(x.length:Int)]++(x.take k).flatMap encPair).length≤800000:=by
     have h1:=HL2.o
     have h2:=flatPair_len (x.take k) (λb hb=>HX.o.all b (List.mem_of_mem_take hb))
     simp only[List.length_append,List.length_take] at *
     omega
    have HLi:=Hm hLi
    clear hLi
    by_cases hkt:k < x.length
    ·obtain⟨blk2,off2,c2,e,hob2,z0,z1⟩:=sk_pair (HSk2.o.stay (Stays.grown HSi.o.grown HOk.o)) k hkt
     simp only[Value.slice.injEq] at e
     obtain⟨rfl,-,rfl⟩:=e
     have hy:=HX.o.all _ (List.getElem_mem hkt)
     have HT2:=Hm (fm_snoc encPair x k hkt)
     generalize x[k]=y at *
     obtain⟨y1,y2,y3,y4⟩:=hy
     obtain⟨yv,yl⟩:=y
     simp only at y1 y2 y3 y4 z0 z1
     have t1:¬yv < 0:=by omega
     have t2:¬4096≤yv:=by omega
     have t3:¬yl < 0:=by omega
     have t4:¬4096≤yl:=by omega
     have HW3:=Hm (λ(w':World) (hb:Bel wr w') (q:Nat) (hq:q=w'.heap.size)=>nums_lit p (B++flatL [(x.length:Int)]++(x.take k).flatMap encPair) [yv,yl] w' q 2 hq rfl (HSi.o.wr.below hb) (by simp;omega) (by have:=HLi.o;simp only[List.length_cons,List.length_nil];omega))
     go_wp2_with fail
     refine(HW3.o _ (bA (bR _) _) (wr.heap.size+1) (by simp)).mono ?_
     rintro e w3 ⟨rfl,hs3⟩
     have HS3:Hd (WrStep w2 w3 p (B++flatL [(x.length:Int)]++(x.take (k+1)).flatMap encPair)):=⟨by
      rw[HT2.o,←List.append_assoc]
      exact WrStep.trans HSi.o (WrStep.bel (bA (bR _) _) hs3)⟩
     clear hs3 z0 z1
     go_wp2_with fail
     go_roundw
     case rel=>exact⟨k+1,by omega,by go_num,HS3.o⟩
     case measure=>simp[intOf];omega
    ·obtain rfl:k=x.length:=by omega
     have hwi:=HSi.o.wr
     rw[List.take_of_length_le (Nat.le_refl _)] at hwi
     have HWi:Hd (WrAt wr p (B0++(ls.take (j+1)).flatMap encPairs)):=⟨by
      rw[HT.o,←List.append_assoc,HBE.o]
      simpa [encPairs,List.append_assoc] using hwi⟩
     have HGi:=Hm (grownBy_trans HG.o (grownBy_trans HS2.o.grown HSi.o.grown))
     clear hwi
     go_wp2_with fail
     go_roundw
     case rel=>exact⟨j+1,by omega,by go_num,HGi.o,HWi.o⟩
     case measure=>simp[intOf];omega
  ·have hwi:=HW.o
   rw[List.take_of_length_le (by omega)] at hwi
   obtain⟨A4,ca4,hw4,hn4⟩:=hwi.newB (w:=w) (by have:=HP.o;omega)
   have HN4:=Hm hn4
   have x0:=hw4.c0
   clear hwi hw4 hn4
   go_wp2
   go_ret2
   refine⟨(bR w).grown HG.o (Nat.le_refl _) (λk hk=>by have:=HP.o;cases hk;omega),_,rfl,?_⟩
   have e:B0++ls.flatMap encPairs=encCert ls:=by rw[←HB0.o];simp[encCert]
   rw[←e]
   simpa using HN4.o
theorem leb_pos (n:Nat):0 < (leb n).length:=by
 rw[leb]
 split<;>simp
def tellBody (job lease:Nat) (C:Code) (cert:List (List PairV)):List UInt8:=leb job++leb lease++leb (encCode C).length++encCode C++encCert cert
theorem putTell_any (job lease:Nat) (hj:job < 16) (hl:lease < 18446744073709551616) (f:Code) (h:CodeOk f) (hf:∀ b∈f.blocks,BlockFine b) (ls:List (List PairV)) (h16:ls.length≤16) (hp:∀ l∈ls,PairsFine l)
  (hlen:(tellBody job lease f ls).length≤65536) (ok:Nat→Prop) (v u:Value) (w:World) (hv:Kd.SK kBlock w ok f.blocks v) (hu:Kd.SK kPairs w ok ls u) :
  Calls Tryz.prog 42 #[.agg #[.int .i64 job,.int .u64 lease,.int .i64 f.params,.int .i64 f.regs,.int .i64 f.slots,v,u]] w λe w'=>Bel w w'∧∃ V,e=.returned (.tuple #[V,.int .i64 0])∧NewB w w' V (layF 3 (tellBody job lease f ls)):=by
 obtain⟨A,c,rfl,-,-⟩:=sk_form hv
 obtain⟨A',c',rfl,-,-⟩:=sk_form hu
 have HC:=Hm (λ(w':World) (hb:Bel w w')=>wcode_any f h hf ok _ w' (sk_bel hv hb))
 have HT:=Hm (λ(w':World) (hb:Bel w w')=>wcert_any ls h16 hp ok _ w' (sk_bel hu hb))
 have HLen:=Hm hlen
 have hlc:(encCode f).length≤65536:=by unfold tellBody at hlen;simp only[List.length_append] at hlen;omega
 have hlt:(encCert ls).length≤65536:=by unfold tellBody at hlen;simp only[List.length_append] at hlen;omega
 obtain⟨C,hC⟩:∃ C,encCode f=C:=⟨_,rfl⟩
 obtain⟨T,hT⟩:∃ T,encCert ls=T:=⟨_,rfl⟩
 have HE:=Hm (And.intro hC hT)
 rw[hC] at HC hlc
 rw[hT] at HT hlt
 obtain⟨params,regs,slots,blocks⟩:=f
 simp only at *
 have HJ:=Hm (And.intro hj (And.intro hl (And.intro hlc hlt)))
 have hj1:¬(job:Int) < 0:=by omega
 have hj2:¬16≤(job:Int):=by omega
 have hl10:=leb_len10 (n:=job) (by omega)
 have hl11:=leb_len10 hl
 have hl12:=leb_len10 (n:=C.length) (by omega)
 have HJL:=Hm (And.intro hl10 (And.intro hl11 hl12))
 clear h hf h16 hp hlen hv hu hC hT hl10 hl11 hl12
 have hwj:IntKind.u64.wrap (job:Int)=job:=wrap_u64 job (by omega)
 have hwc:IntKind.u64.wrap (C.length:Int)=C.length:=wrap_u64 C.length (by omega)
 clear hl
 go_enter Tryz.func42,Tryz.ntmps42
 go_wp2_with fail
 refine(HC.o _ (bA (bR _) _)).mono ?_
 rintro e w1 ⟨hb1,V1,rfl,hn1⟩
 obtain⟨A1,c1,rfl,hB1,hcap1,hnew1⟩:=hn1
 have q0:w1.cell? ⟨w.heap.size,0,none⟩=some (.int .i64 job):=bCell hb1 (by go_simp)
 have q1:w1.cell? ⟨w.heap.size,1,none⟩=some (.int .u64 lease):=bCell hb1 (by go_simp)
 have q6:w1.cell? ⟨w.heap.size,6,none⟩=some (.slice A' ls.length c'):=bCell hb1 (by go_simp)
 have HB1:=Hm (bUA hb1)
 have HY1:=Hm hB1
 clear hb1 hB1 hcap1 hnew1
 go_wp2_with fail
 refine(HT.o _ HB1.o).mono ?_
 rintro e w2 ⟨hb2,V2,rfl,hn2⟩
 obtain⟨A2,c2,rfl,hB2,hcap2,hnew2⟩:=hn2
 have r0:=bCell hb2 q0
 have r1:=bCell hb2 q1
 have HB2:=Hm (bT HB1.o hb2)
 have HA2:Hd (∀ a,A2=some a→a.block < w2.heap.size):=⟨by
  obtain⟨b,off,rfl,hc⟩:=hB2.at_ 0 (by rw[←HE.o.2];have:=leb_pos ls.length;simp only[encCert,flatL,List.flatMap_cons,List.flatMap_nil,List.append_nil,List.length_append,Int.toNat_natCast];omega)
  intro a ha
  cases ha
  exact World.block_lt_of_cell? w2 _ hc⟩
 have HZ2:Hd (w2.heap.size≤w2.heap.size):=⟨Nat.le_refl _⟩
 have HY2:=Hm (And.intro (HY1.o.below hb2) hB2)
 clear hb2 hB2 hcap2 hnew2 q0 q1 q6
 go_wp2_with fail
 refine rgn [.rd 0,.rd 1,.rd 2,.rd 4,.rd 5,.rd 7,.rd 8,.rd 9,.hv 3 [4,5,7,8,9],.hv 6 [7,8,9],.hv 10 [],.rd 11] (n:=55) rfl ?_
 iterate 8 (refine line_rd rfl (λK hK=>?_);go_simp;refine hK _ ?_;clear hK K)
 refine line_hv rfl ?_
 go_wp2_with fail
 refine(put_any none 0 [] job (World.drew w2) (Bytes.nil _ _) (by simp) (by have:=HJ.o.1;omega)).mono ?_
 rintro e w3 ⟨hb3,v3,rfl,ho3⟩
 rw[List.nil_append] at ho3
 obtain⟨A3,c3,rfl,hr3,hl3,-,-,-⟩:=own_row ho3
 simp only[List.length_map] at hl3
 have s0:=bCell (bU hb3) r0
 have s1:=bCell (bU hb3) r1
 have HB3:=Hm (bT HB2.o (bU hb3))
 have HZ3:Hd (w2.heap.size≤w3.heap.size):=⟨(bU hb3).size⟩
 have HY3:=Hm (And.intro (HY2.o.1.below (bU hb3)) (And.intro (HY2.o.2.below (bU hb3)) (show Bytes w3 A3 (leb job) from hr3)))
 clear hb3 ho3 hr3 hl3 r0 r1
 go_wp2_with fail
 refine⟨?_,?_⟩
 ·simp only[Again,slotOf]
  go_simp
 refine line_hv rfl ?_
 go_wp2_with fail
 refine(put_any A3 c3 (leb job) lease w3 HY3.o.2.2 (by have:=HJL.o.1;omega) HJ.o.2.1).mono ?_
 rintro e w4 ⟨hb4,v4,rfl,ho4⟩
 obtain⟨A4,c4,rfl,hr4,hl4,-,-,-⟩:=own_row ho4
 have HB4:=Hm (bT HB3.o hb4)
 have HZ4:Hd (w2.heap.size≤w4.heap.size):=⟨Nat.le_trans HZ3.o hb4.size⟩
 have HY4:=Hm (And.intro (HY3.o.1.below hb4) (And.intro (HY3.o.2.1.below hb4) (show Bytes w4 A4 (leb job++leb lease) from hr4)))
 have HO4:=Hm ho4
 clear hb4 ho4 hr4 hl4 s0 s1
 go_wp2_with fail
 refine⟨?_,?_⟩
 ·simp only[Again,slotOf]
  go_simp
 refine line_hv rfl ?_
 go_wp2_with fail
 obtain⟨B4,hB4⟩:∃ B,leb job++leb lease=B:=⟨_,rfl⟩
 have hBl4:B4.length≤20:=by rw[←hB4];have:=HJL.o;simp only[List.length_append];omega
 have e4:(leb job).length+(leb lease).length=B4.length:=by rw[←hB4];simp
 rw[hB4] at HY4
 rw[e4]
 have HB4E:=Hm hB4
 clear hB4 e4
 refine(put_any A4 c4 B4 C.length w4 HY4.o.2.2 (by omega) (by have:=HJ.o.2.2.1;omega)).mono ?_
 rintro e w5 ⟨hb5,v5,rfl,ho5⟩
 have HB5:=Hm (bT HB4.o hb5)
 have HY5:=Hm (And.intro (HY4.o.1.below hb5) (HY4.o.2.1.below hb5))
 obtain⟨B5,hB5⟩:∃ B,B4++leb C.length=B:=⟨_,rfl⟩
 have hBl5:B5.length≤30:=by rw[←hB5];have:=HJL.o;simp only[List.length_append];omega
 rw[hB5] at ho5
 have HO5:Hd (OwnB w5 w4.heap.size v5 B5):=⟨ho5⟩
 have HZ5:Hd (w4.heap.size≤w5.heap.size):=⟨hb5.size⟩
 have HB5E:=Hm hB5
 clear hb5 ho5 hB5 HO4 HY4
 go_wp2_with fail
 refine⟨?_,?_⟩
 ·exact trivial
 refine line_rd rfl (λK hK=>?_);go_simp;refine hK _ ?_;clear hK K
 unfold Line
 go_wp2_with (first
  |(at_builtin;refine app iByte Tryz.underlying38 rfl (.tmp 47) (.tmp 48) rfl rfl HO5.o HZ5.o (A:=A1) (m:=C.length) (c:=c1) (news:=C.map byteV) rfl HY5.o.1 (by simp) byte_one (by have:=HJ.o;omega) ?_))
 intro v6 w6 ho6 hg6
 have HO6:Hd (OwnB w6 w4.heap.size v6 (B5++C)):=⟨by simpa [OwnB] using ho6⟩
 have HB6:=Hm (bG HB5.o hg6 (λq hq=>Nat.le_trans HB4.o.size (HO5.o.lt q hq).1))
 have HZ6:Hd (w4.heap.size≤w6.heap.size):=⟨Nat.le_trans HZ5.o hg6.size⟩
 have HY6:Hd (Bytes w6 A2 T):=⟨Row.grown HY5.o.2 hg6 (λa ha e=>by
  have:=(HO5.o.lt a.block e.symm).1
  have:=HA2.o a ha
  have:=HZ4.o
  omega)⟩
 obtain⟨B6,hB6⟩:∃ B,B5++C=B:=⟨_,rfl⟩
 have hBl6:B6.length≤70000:=by rw[←hB6];have:=HJ.o;simp only[List.length_append];omega
 rw[hB6] at HO6
 have HB6E:=Hm hB6
 clear ho6 hg6 HO5 HY5 hB6
 go_wp2_with (first
  |(at_builtin;refine app iByte Tryz.underlying38 rfl (.tmp 49) (.tmp 50) rfl rfl HO6.o HZ6.o (A:=A2) (m:=T.length) (c:=c2) (news:=T.map byteV) rfl HY6.o (by simp) byte_one (by have:=HJ.o;omega) ?_))
 intro v7 w7 ho7 hg7
 have HO7:Hd (OwnB w7 w4.heap.size v7 (B6++T)):=⟨by simpa [OwnB] using ho7⟩
 have HB7:=Hm (bG HB6.o hg7 (λq hq=>Nat.le_trans HB4.o.size (HO6.o.lt q hq).1))
 have hbody:B6++T=tellBody job lease ⟨params,regs,slots,blocks⟩ ls:=by
  unfold tellBody
  rw[HE.o.1,HE.o.2,HB4E.o,HB5E.o,HB6E.o]
 obtain⟨B7,hB7⟩:∃ B,B6++T=B:=⟨_,rfl⟩
 rw[hB7] at HO7 hbody
 rw[←hbody] at HLen
 have HBody:=Hm hbody
 clear hbody hB7 ho7 hg7 HO6 HY6
 obtain⟨A7,c7,rfl,hr7,hl7,-,-,-⟩:=own_row HO7.o
 have HR7:Hd (Bytes w7 A7 B7):=⟨hr7⟩
 simp only[List.length_map] at hl7
 clear hr7 HO7 hl7
 have hlay:=lay_any 3 A7 c7 B7 w7 HR7.o HLen.o
 have HLay:=Hm hlay
 clear hlay
 go_wp2_with fail
 refine HLay.o.mono ?_
 rintro e w8 ⟨hb8,v8,rfl,ho8⟩
 have HB8:=Hm (bT HB7.o hb8)
 have HN8:=Hm ((NewB.ofOwn ho8).base HB7.o)
 clear hb8 ho8
 go_wp2
 go_ret2
 exact⟨HB8.o,_,rfl,by rw[←HBody.o];exact HN8.o⟩
section
variable {w X X':World} {p:Nat} {l:List UInt8} {c:Nat}
theorem RdAt.set (h:RdAt X p l c) {b:Nat} (hb:p < b) (k:Nat) (v:Value):RdAt (X.setCell ⟨b,k,none⟩ v) p l c:=by
 obtain⟨bl,off,ca,h⟩:=h
 exact⟨bl,off,ca,h.step (heap_setCell_other X ⟨b,k,none⟩ p v (by simp only;omega)) (heap_setCell_other X ⟨b,k,none⟩ bl v (by have:=h.ne;simp only;omega))⟩
theorem RdAt.growN (h:RdAt X p l c) {row:Option Nat} (hb:∀ k,row=some k→p < k) (hg:X.grownBy X' row):RdAt X' p l c:=by
 obtain⟨bl,off,ca,h⟩:=h
 exact⟨bl,off,ca,h.step (hg.block p h.lt (λe=>by have:=hb p e.symm;omega)) (hg.block bl h.blt (λe=>by have:=hb bl e.symm;have:=h.ne;omega))⟩
theorem grown_set {row:Option Nat} (h:w.grownBy X row) {b:Nat} (hb:w.heap.size≤b) (k:Nat) (v:Value):w.grownBy (X.setCell ⟨b,k,none⟩ v) row :=
 ⟨h.os,h.tape,h.output,by simpa using h.size,λj hj h1=>(heap_setCell_other X ⟨b,k,none⟩ j v (by simp only;omega)).trans (h.block j hj h1)⟩
theorem grown_own {row row':Option Nat} (h:w.grownBy X row) (hg:X.grownBy X' row') (hb:∀ k,row'=some k→w.heap.size≤k):w.grownBy X' row :=
 ⟨hg.os.trans h.os,hg.tape.trans h.tape,hg.output.trans h.output,Nat.le_trans h.size hg.size,λj hj h1=>(hg.block j (Nat.lt_of_lt_of_le hj h.size) (λe=>by have:=hb j e.symm;omega)).trans (h.block j hj h1)⟩
theorem cell_at {b k:Nat} {cs:List Value} {t:TypeId} (h:X.heap[b]?=some (.cells cs.toArray t (0,0))):X.cell? ⟨b,k,none⟩=cs[k]?:=by unfold World.cell?;rw[h];simp
theorem free_at {b:Nat} {cs:List Value} {t:TypeId} (h:X.heap[b]?=some (.cells cs.toArray t (0,0))) (k:Nat):X.frozen? ⟨b,k,none⟩=false:=by unfold World.frozen?;rw[h];simp
theorem set_at {b:Nat} {cs:List Value} {t:TypeId} (h:X.heap[b]?=some (.cells cs.toArray t (0,0))) (k:Nat) (v:Value):(X.setCell ⟨b,k,none⟩ v).heap[b]?=some (.cells (cs.set k v).toArray t (0,0)):=by
 rw[Go.Joins.block_setCell h _];simp
end
structure RI (w X:World) (p q bi t:Nat) (l:List UInt8) (zs cs:List Value):Prop where
 grown:w.grownBy X (some p)
 rd:RdAt X p l 0
 pq:p < q
 wq:w.heap.size≤q
 qb:q+1 < bi
 bx:bi < X.heap.size
 box:X.heap[q]?=some (.cells ([.pointer (some ⟨p,0,none⟩)]:List Value).toArray 138 (0,0))
 res:X.heap[q+1]?=some (.cells zs.toArray t (0,0))
 var:X.heap[bi]?=some (.cells cs.toArray t (0,0))
section
variable {w X X':World} {p q bi t:Nat} {l l':List UInt8} {zs cs:List Value}
theorem RI.b0 (h:RI w X p q bi t l zs cs):X.cell? ⟨q,0,none⟩=some (.pointer (some ⟨p,0,none⟩)):=by rw[cell_at h.box];rfl
theorem RI.step (h:RI w X p q bi t l zs cs) (hs:RdStep X X' p l' 0):RI w X' p q bi t l' zs cs:=by
 have h1:=h.pq
 have h2:=h.qb
 have h3:=h.bx
 exact { h with
  grown:=grownBy_trans h.grown hs.grown
  rd:=hs.rd
  bx:=Nat.lt_of_lt_of_le h3 hs.grown.size
  box:=by rw[hs.grown.block q (by omega) (by simp;omega)];exact h.box
  res:=by rw[hs.grown.block (q+1) (by omega) (by simp;omega)];exact h.res
  var:=by rw[hs.grown.block bi (by omega) (by simp;omega)];exact h.var }
theorem RI.bel (h:RI w X p q bi t l zs cs) (hb:Bel X X'):RI w X' p q bi t l zs cs:=by
 have h1:=h.pq
 have h2:=h.qb
 have h3:=h.bx
 exact { h with
  grown:=grownBy_trans h.grown (grownBy_below hb)
  rd:=h.rd.below hb
  bx:=Nat.lt_of_lt_of_le h3 hb.size
  box:=bHeap hb h.box
  res:=bHeap hb h.res
  var:=bHeap hb h.var }
theorem RI.own (h:RI w X p q bi t l zs cs) {row:Option Nat} (hg:X.grownBy X' row) (hr:∀ k,row=some k→bi < k):RI w X' p q bi t l zs cs:=by
 have h1:=h.pq
 have h2:=h.qb
 have h3:=h.bx
 have h4:=h.wq
 exact { h with
  grown:=grown_own h.grown hg (λk hk=>by have:=hr k hk;omega)
  rd:=h.rd.growN (λk hk=>by have:=hr k hk;omega) hg
  bx:=Nat.lt_of_lt_of_le h3 hg.size
  box:=by rw[hg.block q (by omega) (λe=>by have:=hr q e.symm;omega)];exact h.box
  res:=by rw[hg.block (q+1) (by omega) (λe=>by have:=hr (q+1) e.symm;omega)];exact h.res
  var:=by rw[hg.block bi (by omega) (λe=>by have:=hr bi e.symm;omega)];exact h.var }
theorem RI.set (h:RI w X p q bi t l zs cs) (k:Nat) (v:Value):RI w (X.setCell ⟨bi,k,none⟩ v) p q bi t l zs (cs.set k v):=by
 have h1:=h.pq
 have h2:=h.qb
 have h4:=h.wq
 exact { h with
  grown:=grown_set h.grown (by omega) k v
  rd:=h.rd.set (by omega) k v
  bx:=by simpa using h.bx
  box:=by rw[heap_setCell_other X ⟨bi,k,none⟩ q v (by simp only;omega)];exact h.box
  res:=by rw[heap_setCell_other X ⟨bi,k,none⟩ (q+1) v (by simp only;omega)];exact h.res
  var:=set_at h.var k v }
theorem RI.setR (h:RI w X p q bi t l zs cs) (k:Nat) (v:Value):RI w (X.setCell ⟨q+1,k,none⟩ v) p q bi t l (zs.set k v) cs:=by
 have h1:=h.pq
 have h2:=h.qb
 have h4:=h.wq
 exact { h with
  grown:=grown_set h.grown (by omega) k v
  rd:=h.rd.set (by omega) k v
  bx:=by simpa using h.bx
  box:=by rw[heap_setCell_other X ⟨q+1,k,none⟩ q v (by simp only;omega)];exact h.box
  var:=by rw[heap_setCell_other X ⟨q+1,k,none⟩ bi v (by simp only;omega)];exact h.var
  res:=set_at h.res k v }
theorem RI.fin (h:RI w X p q bi t l zs cs):RdStep w X p l 0:=⟨h.grown,h.rd⟩
end
theorem below_leb (p:Nat) (n:Nat) (rest:List UInt8) (lim:Nat) (w:World) (h:RdAt w p (leb n++rest) 0) (hn:n < lim) (hlim:lim < 4294967296) (hl:(leb n++rest).length≤10000000) :
  Calls Tryz.prog 53 #[.pointer (some ⟨p,0,none⟩),.int .i64 lim] w λe w'=>e=.returned (.int .i64 n)∧RdStep w w' p rest 0:=by
 have:=below_rd p (leb n++rest) 0 lim w h hl (by omega)
 rw[belowC_leb n rest lim (by omega) (by omega)] at this
 exact this
theorem int_leb (p:Nat) (n:Int) (rest:List UInt8) (w:World) (h:RdAt w p (leb (zig n)++rest) 0) (h1:-9223372036854775808≤n∧n≤9223372036854775807) (hl:(leb (zig n)++rest).length≤10000000) :
  Calls Tryz.prog 151 #[.pointer (some ⟨p,0,none⟩)] w λe w'=>e=.returned (.int .i64 n)∧RdStep w w' p rest 0:=by
 have:=int_rd p (leb (zig n)++rest) 0 w h hl
 rw[numC_leb _ rest (zig_lt n h1.1 h1.2),unzig_zig] at this
 exact this
theorem num150 (q p:Nat) (n:Nat) (rest:List UInt8) (w:World) (hq:w.cell? ⟨q,0,none⟩=some (.pointer (some ⟨p,0,none⟩))) (h:RdAt w p (leb n++rest) 0) (hn:n < 4096) (hl:(leb n++rest).length≤10000000) :
  Calls Tryz.prog 150 #[.pointer (some ⟨q,0,none⟩)] w λe w'=>e=.returned (.int .i64 n)∧RdStep w w' p rest 0:=by
 have H:=Hm (below_leb p n rest 4096 w h hn (by omega) hl)
 clear h
 go_enter Tryz.func150,Tryz.ntmps150
 go_wp2_with fail
 refine H.o.mono ?_
 rintro e w' ⟨rfl,hs⟩
 have HS:=Hm hs
 clear hs
 go_wp2
 go_ret
 exact⟨rfl,HS.o⟩
theorem num152 (q p:Nat) (n:Nat) (rest:List UInt8) (w:World) (hq:w.cell? ⟨q,0,none⟩=some (.pointer (some ⟨p,0,none⟩))) (h:RdAt w p (leb n++rest) 0) (hn:n < 4096) (hl:(leb n++rest).length≤10000000) :
  Calls Tryz.prog 152 #[.pointer (some ⟨q,0,none⟩)] w λe w'=>e=.returned (.int .i64 n)∧RdStep w w' p rest 0:=by
 have H:=Hm (below_leb p n rest 4096 w h hn (by omega) hl)
 clear h
 go_enter Tryz.func152,Tryz.ntmps152
 go_wp2_with fail
 refine H.o.mono ?_
 rintro e w' ⟨rfl,hs⟩
 have HS:=Hm hs
 clear hs
 go_wp2
 go_ret
 exact⟨rfl,HS.o⟩
theorem cC2 {X:World} {b:Nat} {t:TypeId} {v0 v1:Value} {r:List Value} (h:X.heap[b]?=some (.cells (v0 :: v1 :: r:List Value).toArray t (0,0))):X.cell? ⟨b,0,none⟩=some v0∧X.cell? ⟨b,1,none⟩=some v1 :=
 ⟨cell_at h,cell_at h⟩
theorem fF2 {X:World} {b:Nat} {t:TypeId} {cs:Array Value} (h:X.heap[b]?=some (.cells cs t (0,0))):X.frozen? ⟨b,0,none⟩=false∧X.frozen? ⟨b,1,none⟩=false :=
 ⟨free_at (cs:=cs.toList) h 0,free_at (cs:=cs.toList) h 1⟩
theorem cC3 {X:World} {b:Nat} {t:TypeId} {v0 v1 v2:Value} {r:List Value} (h:X.heap[b]?=some (.cells (v0 :: v1 :: v2 :: r:List Value).toArray t (0,0))):X.cell? ⟨b,0,none⟩=some v0∧X.cell? ⟨b,1,none⟩=some v1∧X.cell? ⟨b,2,none⟩=some v2 :=
 ⟨cell_at h,cell_at h,cell_at h⟩
theorem fF3 {X:World} {b:Nat} {t:TypeId} {cs:Array Value} (h:X.heap[b]?=some (.cells cs t (0,0))):X.frozen? ⟨b,0,none⟩=false∧X.frozen? ⟨b,1,none⟩=false∧X.frozen? ⟨b,2,none⟩=false :=
 ⟨free_at (cs:=cs.toList) h 0,free_at (cs:=cs.toList) h 1,free_at (cs:=cs.toList) h 2⟩
theorem cC4 {X:World} {b:Nat} {t:TypeId} {v0 v1 v2 v3:Value} {r:List Value} (h:X.heap[b]?=some (.cells (v0 :: v1 :: v2 :: v3 :: r:List Value).toArray t (0,0))):X.cell? ⟨b,0,none⟩=some v0∧X.cell? ⟨b,1,none⟩=some v1∧X.cell? ⟨b,2,none⟩=some v2∧X.cell? ⟨b,3,none⟩=some v3 :=
 ⟨cell_at h,cell_at h,cell_at h,cell_at h⟩
theorem fF4 {X:World} {b:Nat} {t:TypeId} {cs:Array Value} (h:X.heap[b]?=some (.cells cs t (0,0))):X.frozen? ⟨b,0,none⟩=false∧X.frozen? ⟨b,1,none⟩=false∧X.frozen? ⟨b,2,none⟩=false∧X.frozen? ⟨b,3,none⟩=false :=
 ⟨free_at (cs:=cs.toList) h 0,free_at (cs:=cs.toList) h 1,free_at (cs:=cs.toList) h 2,free_at (cs:=cs.toList) h 3⟩
theorem cC5 {X:World} {b:Nat} {t:TypeId} {v0 v1 v2 v3 v4:Value} {r:List Value} (h:X.heap[b]?=some (.cells (v0 :: v1 :: v2 :: v3 :: v4 :: r:List Value).toArray t (0,0))):X.cell? ⟨b,0,none⟩=some v0∧X.cell? ⟨b,1,none⟩=some v1∧X.cell? ⟨b,2,none⟩=some v2∧X.cell? ⟨b,3,none⟩=some v3∧X.cell? ⟨b,4,none⟩=some v4 :=
 ⟨cell_at h,cell_at h,cell_at h,cell_at h,cell_at h⟩
theorem fF5 {X:World} {b:Nat} {t:TypeId} {cs:Array Value} (h:X.heap[b]?=some (.cells cs t (0,0))):X.frozen? ⟨b,0,none⟩=false∧X.frozen? ⟨b,1,none⟩=false∧X.frozen? ⟨b,2,none⟩=false∧X.frozen? ⟨b,3,none⟩=false∧X.frozen? ⟨b,4,none⟩=false :=
 ⟨free_at (cs:=cs.toList) h 0,free_at (cs:=cs.toList) h 1,free_at (cs:=cs.toList) h 2,free_at (cs:=cs.toList) h 3,free_at (cs:=cs.toList) h 4⟩
theorem cC6 {X:World} {b:Nat} {t:TypeId} {v0 v1 v2 v3 v4 v5:Value} {r:List Value} (h:X.heap[b]?=some (.cells (v0 :: v1 :: v2 :: v3 :: v4 :: v5 :: r:List Value).toArray t (0,0))):X.cell? ⟨b,0,none⟩=some v0∧X.cell? ⟨b,1,none⟩=some v1∧X.cell? ⟨b,2,none⟩=some v2∧X.cell? ⟨b,3,none⟩=some v3∧X.cell? ⟨b,4,none⟩=some v4∧X.cell? ⟨b,5,none⟩=some v5 :=
 ⟨cell_at h,cell_at h,cell_at h,cell_at h,cell_at h,cell_at h⟩
theorem cC7 {X:World} {b:Nat} {t:TypeId} {v0 v1 v2 v3 v4 v5 v6:Value} {r:List Value} (h:X.heap[b]?=some (.cells (v0 :: v1 :: v2 :: v3 :: v4 :: v5 :: v6 :: r:List Value).toArray t (0,0))):X.cell? ⟨b,0,none⟩=some v0∧X.cell? ⟨b,1,none⟩=some v1∧X.cell? ⟨b,2,none⟩=some v2∧X.cell? ⟨b,3,none⟩=some v3∧X.cell? ⟨b,4,none⟩=some v4∧X.cell? ⟨b,5,none⟩=some v5∧X.cell? ⟨b,6,none⟩=some v6 :=
 ⟨cell_at h,cell_at h,cell_at h,cell_at h,cell_at h,cell_at h,cell_at h⟩
theorem fF7 {X:World} {b:Nat} {t:TypeId} {cs:Array Value} (h:X.heap[b]?=some (.cells cs t (0,0))):X.frozen? ⟨b,0,none⟩=false∧X.frozen? ⟨b,1,none⟩=false∧X.frozen? ⟨b,2,none⟩=false∧X.frozen? ⟨b,3,none⟩=false∧X.frozen? ⟨b,4,none⟩=false∧X.frozen? ⟨b,5,none⟩=false∧X.frozen? ⟨b,6,none⟩=false :=
 ⟨free_at (cs:=cs.toList) h 0,free_at (cs:=cs.toList) h 1,free_at (cs:=cs.toList) h 2,free_at (cs:=cs.toList) h 3,free_at (cs:=cs.toList) h 4,free_at (cs:=cs.toList) h 5,free_at (cs:=cs.toList) h 6⟩
theorem rend_1 (p:Nat) (rest:List UInt8) (t:Nat) (w:World) (h:RdAt w p (leb 1++(leb t++(rest))) 0) (ht:t < 4096) (hl:(leb 1++(leb t++(rest))).length≤10000000) :
  Calls Tryz.prog 123 #[.pointer (some ⟨p,0,none⟩)] w λe w'=>e=.returned (.agg #[.int .u8 1,.int .i64 0,.int .i64 (t:Nat),.int .i64 0])∧RdStep w w' p rest 0:=by
 have hp:=h.lt
 have HRd:=Hm h
 have HL:=Hm hl
 simp only[List.length_append] at hl
 have HLN:=Hm hl
 clear h hl
 go_enter Tryz.func123,Tryz.ntmps123
 go_wp2_with fail
 have hw2:∀ W:World,W=(w.alloc (.cells #[.pointer (some ⟨p,0,none⟩)] 138)).alloc (.cells #[.int .u8 0,.int .i64 0,.int .i64 0,.int .i64 0] 95)→Bel w W∧W.heap.size=w.heap.size+2∧W.heap[w.heap.size]?=some (.cells ([.pointer (some ⟨p,0,none⟩)]:List Value).toArray 138 (0,0))∧W.heap[w.heap.size+1]?=some (.cells ([.int .u8 0,.int .i64 0,.int .i64 0,.int .i64 0]:List Value).toArray 95 (0,0)):=by
  rintro W rfl
  refine⟨bA (bA (bR _) _) _,by simp,?_,?_⟩
  ·rw[heap_old _ _ _ (by simp)];exact heap_new _ _
  ·have:=heap_new (w.alloc (.cells #[.pointer (some ⟨p,0,none⟩)] 138)) (.cells #[.int .u8 0,.int .i64 0,.int .i64 0,.int .i64 0] 95)
   simpa using this
 obtain⟨hbw,hzw,hq1,hq2⟩:=hw2 _ rfl
 refine(below_leb p 1 _ 256 _ (HRd.o.below hbw) (by omega) (by omega) HL.o).mono ?_
 rintro e X1 ⟨rfl,hs⟩
 have hz1:w.heap.size+1 < X1.heap.size:=by have:=hs.grown.size;omega
 have HR:Hd (RI w (X1.alloc (.cells #[.int .u8 1,.int .i64 0,.int .i64 0,.int .i64 0] 95)) p w.heap.size X1.heap.size 95 (leb t++(rest)) [.int .u8 0,.int .i64 0,.int .i64 0,.int .i64 0] [.int .u8 1,.int .i64 0,.int .i64 0,.int .i64 0]):=⟨by
  have hx1:=hs.grown.block w.heap.size (by omega) (by simp;omega)
  have hx2:=hs.grown.block (w.heap.size+1) (by omega) (by simp;omega)
  exact {
   grown:=grownBy_trans (grownBy_trans (grownBy_below hbw) hs.grown) (grownBy_below (bA (bR _) _))
   rd:=hs.rd.below (bA (bR _) _)
   pq:=hp
   wq:=Nat.le_refl _
   qb:=hz1
   bx:=by simp
   box:=bHeap (bA (bR _) _) (hx1.trans hq1)
   res:=bHeap (bA (bR _) _) (hx2.trans hq2)
   var:=heap_new _ _ }⟩
 have HZ1:=Hm hz1
 clear hw2 hbw hzw hq1 hq2 hs HRd
 obtain⟨bi,hbi⟩:∃ bi,bi=X1.heap.size:=⟨_,rfl⟩
 have b0:=HR.o.b0
 go_wp2_with fail
 clear b0
 obtain⟨X,hX⟩:∃ X,X=X1.alloc (.cells #[.int .u8 1,.int .i64 0,.int .i64 0,.int .i64 0] 95):=⟨_,rfl⟩
 rw[←hX] at HR⊢
 rw[←hbi] at HR⊢
 clear hX hbi HZ1 hz1
 refine(num152 w.heap.size p t (rest) X HR.o.b0 HR.o.rd ht (by have:=HLN.o;simp only[List.length_append] at this⊢;omega)).mono ?_
 rintro e X' ⟨rfl,hs⟩
 have HR':=Hm (HR.o.step hs)
 have b0:=HR'.o.b0
 have v0:X'.cell? ⟨bi,2,none⟩=some (.int .i64 0):=by rw[cell_at HR'.o.var];rfl
 have f0:=free_at HR'.o.var 2
 have HR2:=Hm (HR'.o.set 2 (.int .i64 t))
 simp only[List.set_cons_zero,List.set_cons_succ] at HR2
 clear hs HR HR'
 obtain⟨X,hX⟩:∃ X,X=X'.setCell ⟨bi,2,none⟩ (.int .i64 t):=⟨_,rfl⟩
 have HX:=Hm hX
 rw[←hX] at HR2
 clear hX
 have hh:=HR2.o.var
 rw[HX.o] at hh
 obtain⟨c0,c1,c2,c3⟩:=cC4 hh
 clear hh
 have hh:=HR2.o.res
 rw[HX.o] at hh
 obtain⟨z0,z1,z2,z3⟩:=cC4 hh
 clear hh
 have hh:=HR2.o.res
 rw[HX.o] at hh
 obtain⟨g0,g1,g2,g3⟩:=fF4 hh
 clear hh
 have HFin:=Hm ((((HR2.o.setR 0 (.int .u8 1)).setR 1 (.int .i64 0)).setR 2 (.int .i64 t)).setR 3 (.int .i64 0))
 rw[HX.o] at HFin
 clear HR2 HX
 go_wp2
 obtain⟨y0,y1,y2,y3⟩:=cC4 HFin.o.res
 refine bodyPost_ret (v:=.agg #[.int .u8 1,.int .i64 0,.int .i64 t,.int .i64 0]) (by simp[results,Tryz.results123,go_sem,y0,y1,y2,y3]) rfl ⟨rfl,HFin.o.fin⟩
theorem rend_2 (p:Nat) (rest:List UInt8) (a:Nat) (t:Nat) (s:Nat) (w:World) (h:RdAt w p (leb 2++(leb a++(leb t++(leb s++(rest))))) 0) (ha:a < 4096) (ht:t < 4096) (hs:s < 4096) (hl:(leb 2++(leb a++(leb t++(leb s++(rest))))).length≤10000000) :
  Calls Tryz.prog 123 #[.pointer (some ⟨p,0,none⟩)] w λe w'=>e=.returned (.agg #[.int .u8 2,.int .i64 (a:Nat),.int .i64 (t:Nat),.int .i64 (s:Nat)])∧RdStep w w' p rest 0:=by
 have hp:=h.lt
 have HRd:=Hm h
 have HL:=Hm hl
 simp only[List.length_append] at hl
 have HLN:=Hm hl
 clear h hl
 go_enter Tryz.func123,Tryz.ntmps123
 go_wp2_with fail
 have hw2:∀ W:World,W=(w.alloc (.cells #[.pointer (some ⟨p,0,none⟩)] 138)).alloc (.cells #[.int .u8 0,.int .i64 0,.int .i64 0,.int .i64 0] 95)→Bel w W∧W.heap.size=w.heap.size+2∧W.heap[w.heap.size]?=some (.cells ([.pointer (some ⟨p,0,none⟩)]:List Value).toArray 138 (0,0))∧W.heap[w.heap.size+1]?=some (.cells ([.int .u8 0,.int .i64 0,.int .i64 0,.int .i64 0]:List Value).toArray 95 (0,0)):=by
  rintro W rfl
  refine⟨bA (bA (bR _) _) _,by simp,?_,?_⟩
  ·rw[heap_old _ _ _ (by simp)];exact heap_new _ _
  ·have:=heap_new (w.alloc (.cells #[.pointer (some ⟨p,0,none⟩)] 138)) (.cells #[.int .u8 0,.int .i64 0,.int .i64 0,.int .i64 0] 95)
   simpa using this
 obtain⟨hbw,hzw,hq1,hq2⟩:=hw2 _ rfl
 refine(below_leb p 2 _ 256 _ (HRd.o.below hbw) (by omega) (by omega) HL.o).mono ?_
 rintro e X1 ⟨rfl,hs⟩
 have hz1:w.heap.size+1 < X1.heap.size:=by have:=hs.grown.size;omega
 have HR:Hd (RI w (X1.alloc (.cells #[.int .u8 2,.int .i64 0,.int .i64 0,.int .i64 0] 95)) p w.heap.size X1.heap.size 95 (leb a++(leb t++(leb s++(rest)))) [.int .u8 0,.int .i64 0,.int .i64 0,.int .i64 0] [.int .u8 2,.int .i64 0,.int .i64 0,.int .i64 0]):=⟨by
  have hx1:=hs.grown.block w.heap.size (by omega) (by simp;omega)
  have hx2:=hs.grown.block (w.heap.size+1) (by omega) (by simp;omega)
  exact {
   grown:=grownBy_trans (grownBy_trans (grownBy_below hbw) hs.grown) (grownBy_below (bA (bR _) _))
   rd:=hs.rd.below (bA (bR _) _)
   pq:=hp
   wq:=Nat.le_refl _
   qb:=hz1
   bx:=by simp
   box:=bHeap (bA (bR _) _) (hx1.trans hq1)
   res:=bHeap (bA (bR _) _) (hx2.trans hq2)
   var:=heap_new _ _ }⟩
 have HZ1:=Hm hz1
 clear hw2 hbw hzw hq1 hq2 hs HRd
 obtain⟨bi,hbi⟩:∃ bi,bi=X1.heap.size:=⟨_,rfl⟩
 have b0:=HR.o.b0
 go_wp2_with fail
 clear b0
 obtain⟨X,hX⟩:∃ X,X=X1.alloc (.cells #[.int .u8 2,.int .i64 0,.int .i64 0,.int .i64 0] 95):=⟨_,rfl⟩
 rw[←hX] at HR⊢
 rw[←hbi] at HR⊢
 clear hX hbi HZ1 hz1
 refine(num152 w.heap.size p a (leb t++(leb s++(rest))) X HR.o.b0 HR.o.rd ha (by have:=HLN.o;simp only[List.length_append] at this⊢;omega)).mono ?_
 rintro e X' ⟨rfl,hs⟩
 have HR':=Hm (HR.o.step hs)
 have b0:=HR'.o.b0
 have v0:X'.cell? ⟨bi,1,none⟩=some (.int .i64 0):=by rw[cell_at HR'.o.var];rfl
 have f0:=free_at HR'.o.var 1
 have HR2:=Hm (HR'.o.set 1 (.int .i64 a))
 simp only[List.set_cons_zero,List.set_cons_succ] at HR2
 clear hs HR HR'
 go_wp2_with fail
 obtain⟨X,hX⟩:∃ X,X=X'.setCell ⟨bi,1,none⟩ (.int .i64 a):=⟨_,rfl⟩
 rw[←hX] at HR2⊢
 clear hX b0 v0 f0
 have HR:=HR2
 clear HR2
 refine(num152 w.heap.size p t (leb s++(rest)) X HR.o.b0 HR.o.rd ht (by have:=HLN.o;simp only[List.length_append] at this⊢;omega)).mono ?_
 rintro e X' ⟨rfl,hs⟩
 have HR':=Hm (HR.o.step hs)
 have b0:=HR'.o.b0
 have v0:X'.cell? ⟨bi,2,none⟩=some (.int .i64 0):=by rw[cell_at HR'.o.var];rfl
 have f0:=free_at HR'.o.var 2
 have HR2:=Hm (HR'.o.set 2 (.int .i64 t))
 simp only[List.set_cons_zero,List.set_cons_succ] at HR2
 clear hs HR HR'
 go_wp2_with fail
 obtain⟨X,hX⟩:∃ X,X=X'.setCell ⟨bi,2,none⟩ (.int .i64 t):=⟨_,rfl⟩
 rw[←hX] at HR2⊢
 clear hX b0 v0 f0
 have HR:=HR2
 clear HR2
 refine(num152 w.heap.size p s (rest) X HR.o.b0 HR.o.rd hs (by have:=HLN.o;simp only[List.length_append] at this⊢;omega)).mono ?_
 rintro e X' ⟨rfl,hs⟩
 have HR':=Hm (HR.o.step hs)
 have b0:=HR'.o.b0
 have v0:X'.cell? ⟨bi,3,none⟩=some (.int .i64 0):=by rw[cell_at HR'.o.var];rfl
 have f0:=free_at HR'.o.var 3
 have HR2:=Hm (HR'.o.set 3 (.int .i64 s))
 simp only[List.set_cons_zero,List.set_cons_succ] at HR2
 clear hs HR HR'
 obtain⟨X,hX⟩:∃ X,X=X'.setCell ⟨bi,3,none⟩ (.int .i64 s):=⟨_,rfl⟩
 have HX:=Hm hX
 rw[←hX] at HR2
 clear hX
 have hh:=HR2.o.var
 rw[HX.o] at hh
 obtain⟨c0,c1,c2,c3⟩:=cC4 hh
 clear hh
 have hh:=HR2.o.res
 rw[HX.o] at hh
 obtain⟨z0,z1,z2,z3⟩:=cC4 hh
 clear hh
 have hh:=HR2.o.res
 rw[HX.o] at hh
 obtain⟨g0,g1,g2,g3⟩:=fF4 hh
 clear hh
 have HFin:=Hm ((((HR2.o.setR 0 (.int .u8 2)).setR 1 (.int .i64 a)).setR 2 (.int .i64 t)).setR 3 (.int .i64 s))
 rw[HX.o] at HFin
 clear HR2 HX
 go_wp2
 obtain⟨y0,y1,y2,y3⟩:=cC4 HFin.o.res
 refine bodyPost_ret (v:=.agg #[.int .u8 2,.int .i64 a,.int .i64 t,.int .i64 s]) (by simp[results,Tryz.results123,go_sem,y0,y1,y2,y3]) rfl ⟨rfl,HFin.o.fin⟩
theorem rend_3 (p:Nat) (rest:List UInt8) (a:Nat) (w:World) (h:RdAt w p (leb 3++(leb a++(rest))) 0) (ha:a < 4096) (hl:(leb 3++(leb a++(rest))).length≤10000000) :
  Calls Tryz.prog 123 #[.pointer (some ⟨p,0,none⟩)] w λe w'=>e=.returned (.agg #[.int .u8 3,.int .i64 (a:Nat),.int .i64 0,.int .i64 0])∧RdStep w w' p rest 0:=by
 have hp:=h.lt
 have HRd:=Hm h
 have HL:=Hm hl
 simp only[List.length_append] at hl
 have HLN:=Hm hl
 clear h hl
 go_enter Tryz.func123,Tryz.ntmps123
 go_wp2_with fail
 have hw2:∀ W:World,W=(w.alloc (.cells #[.pointer (some ⟨p,0,none⟩)] 138)).alloc (.cells #[.int .u8 0,.int .i64 0,.int .i64 0,.int .i64 0] 95)→Bel w W∧W.heap.size=w.heap.size+2∧W.heap[w.heap.size]?=some (.cells ([.pointer (some ⟨p,0,none⟩)]:List Value).toArray 138 (0,0))∧W.heap[w.heap.size+1]?=some (.cells ([.int .u8 0,.int .i64 0,.int .i64 0,.int .i64 0]:List Value).toArray 95 (0,0)):=by
  rintro W rfl
  refine⟨bA (bA (bR _) _) _,by simp,?_,?_⟩
  ·rw[heap_old _ _ _ (by simp)];exact heap_new _ _
  ·have:=heap_new (w.alloc (.cells #[.pointer (some ⟨p,0,none⟩)] 138)) (.cells #[.int .u8 0,.int .i64 0,.int .i64 0,.int .i64 0] 95)
   simpa using this
 obtain⟨hbw,hzw,hq1,hq2⟩:=hw2 _ rfl
 refine(below_leb p 3 _ 256 _ (HRd.o.below hbw) (by omega) (by omega) HL.o).mono ?_
 rintro e X1 ⟨rfl,hs⟩
 have hz1:w.heap.size+1 < X1.heap.size:=by have:=hs.grown.size;omega
 have HR:Hd (RI w (X1.alloc (.cells #[.int .u8 3,.int .i64 0,.int .i64 0,.int .i64 0] 95)) p w.heap.size X1.heap.size 95 (leb a++(rest)) [.int .u8 0,.int .i64 0,.int .i64 0,.int .i64 0] [.int .u8 3,.int .i64 0,.int .i64 0,.int .i64 0]):=⟨by
  have hx1:=hs.grown.block w.heap.size (by omega) (by simp;omega)
  have hx2:=hs.grown.block (w.heap.size+1) (by omega) (by simp;omega)
  exact {
   grown:=grownBy_trans (grownBy_trans (grownBy_below hbw) hs.grown) (grownBy_below (bA (bR _) _))
   rd:=hs.rd.below (bA (bR _) _)
   pq:=hp
   wq:=Nat.le_refl _
   qb:=hz1
   bx:=by simp
   box:=bHeap (bA (bR _) _) (hx1.trans hq1)
   res:=bHeap (bA (bR _) _) (hx2.trans hq2)
   var:=heap_new _ _ }⟩
 have HZ1:=Hm hz1
 clear hw2 hbw hzw hq1 hq2 hs HRd
 obtain⟨bi,hbi⟩:∃ bi,bi=X1.heap.size:=⟨_,rfl⟩
 have b0:=HR.o.b0
 go_wp2_with fail
 clear b0
 obtain⟨X,hX⟩:∃ X,X=X1.alloc (.cells #[.int .u8 3,.int .i64 0,.int .i64 0,.int .i64 0] 95):=⟨_,rfl⟩
 rw[←hX] at HR⊢
 rw[←hbi] at HR⊢
 clear hX hbi HZ1 hz1
 refine(num152 w.heap.size p a (rest) X HR.o.b0 HR.o.rd ha (by have:=HLN.o;simp only[List.length_append] at this⊢;omega)).mono ?_
 rintro e X' ⟨rfl,hs⟩
 have HR':=Hm (HR.o.step hs)
 have b0:=HR'.o.b0
 have v0:X'.cell? ⟨bi,1,none⟩=some (.int .i64 0):=by rw[cell_at HR'.o.var];rfl
 have f0:=free_at HR'.o.var 1
 have HR2:=Hm (HR'.o.set 1 (.int .i64 a))
 simp only[List.set_cons_zero,List.set_cons_succ] at HR2
 clear hs HR HR'
 obtain⟨X,hX⟩:∃ X,X=X'.setCell ⟨bi,1,none⟩ (.int .i64 a):=⟨_,rfl⟩
 have HX:=Hm hX
 rw[←hX] at HR2
 clear hX
 have hh:=HR2.o.var
 rw[HX.o] at hh
 obtain⟨c0,c1,c2,c3⟩:=cC4 hh
 clear hh
 have hh:=HR2.o.res
 rw[HX.o] at hh
 obtain⟨z0,z1,z2,z3⟩:=cC4 hh
 clear hh
 have hh:=HR2.o.res
 rw[HX.o] at hh
 obtain⟨g0,g1,g2,g3⟩:=fF4 hh
 clear hh
 have HFin:=Hm ((((HR2.o.setR 0 (.int .u8 3)).setR 1 (.int .i64 a)).setR 2 (.int .i64 0)).setR 3 (.int .i64 0))
 rw[HX.o] at HFin
 clear HR2 HX
 go_wp2
 obtain⟨y0,y1,y2,y3⟩:=cC4 HFin.o.res
 refine bodyPost_ret (v:=.agg #[.int .u8 3,.int .i64 a,.int .i64 0,.int .i64 0]) (by simp[results,Tryz.results123,go_sem,y0,y1,y2,y3]) rfl ⟨rfl,HFin.o.fin⟩
theorem ri_begin {w X1:World} {p:Nat} {l:List UInt8} (cs:List Value) (hp:p < w.heap.size) (hs:RdStep ((w.alloc (.cells #[.pointer (some ⟨p,0,none⟩)] 138)).alloc (.cells #[.int .u8 0,.int .u8 0,.int .i64 0,.int .i64 0,.int .i64 0,.int .i64 0,.slice none 0 0] 91)) X1 p l 0) :
  w.heap.size+1 < X1.heap.size∧RI w (X1.alloc (.cells cs.toArray 91)) p w.heap.size X1.heap.size 91 l [.int .u8 0,.int .u8 0,.int .i64 0,.int .i64 0,.int .i64 0,.int .i64 0,.slice none 0 0] cs:=by
 have hbw:Bel w ((w.alloc (.cells #[.pointer (some ⟨p,0,none⟩)] 138)).alloc (.cells #[.int .u8 0,.int .u8 0,.int .i64 0,.int .i64 0,.int .i64 0,.int .i64 0,.slice none 0 0] 91)):=bA (bA (bR _) _) _
 have hz:=hs.grown.size
 simp at hz
 have hx1:=hs.grown.block w.heap.size (by simp only[World.size_alloc];omega) (by simp;omega)
 have hx2:=hs.grown.block (w.heap.size+1) (by simp only[World.size_alloc];omega) (by simp;omega)
 refine⟨by omega,?_⟩
 exact {
  grown:=grownBy_trans (grownBy_trans (grownBy_below hbw) hs.grown) (grownBy_below (bA (bR _) _))
  rd:=hs.rd.below (bA (bR _) _)
  pq:=hp
  wq:=Nat.le_refl _
  qb:=by omega
  bx:=by simp
  box:=bHeap (bA (bR _) _) (hx1.trans (by rw[heap_old _ _ _ (by simp)];exact heap_new _ _))
  res:=bHeap (bA (bR _) _) (hx2.trans (by
   have:=heap_new (w.alloc (.cells #[.pointer (some ⟨p,0,none⟩)] 138)) (.cells #[.int .u8 0,.int .u8 0,.int .i64 0,.int .i64 0,.int .i64 0,.int .i64 0,.slice none 0 0] 91)
   simpa using this))
  var:=heap_new _ _ }
end Go.Proofs.YtjkgligohegaeaaGreatDoor
