/- Lemmas of the row. -/
import Derived.Deep.Slices
import Derived.Lib.BufferRead
import Derived.Test.YtjkgligohegaeaaGreatDoorN28
set_option linter.all false
set_option maxRecDepth 20000
set_option maxHeartbeats 12800000
namespace Go.Proofs.YtjkgligohegaeaaGreatDoor
open Go.RowKit
theorem TabOk.turn {w w':World} {ow ow':Nat→Nat} {I:Nat→Prop} (h:TabOk w) (t:Turn w w' ow ow' I) (hI:¬I (ow 0)):TabOk w':=by
 have hz:=World.block_lt_of_cell? w _ h.1
 exact⟨(cell_of_heap (a:=⟨0,0,none⟩) (t.only.block 0 hz hI)).trans h.1,(cell_of_heap (a:=⟨0,1,none⟩) (t.only.block 0 hz hI)).trans h.2⟩
theorem work_one (w:World) (ow:Nat→Nat) (x:Nat) (h:Hds) (f:Farm w ow x st1 h [[],[ask0]]) (u:FarmUp w ow st1 h [job1] 1) (ht:TabOk w) (ho:ow 0=0) :
  Calls Tryz.prog 29 #[.pointer (some ⟨x,0,none⟩),.int .i64 0,.bool false] w λe w'=>e=.returned (.int .i64 0)∧∃ h',Turn w w' ow ow (λn=>n=10∨n=11)∧Farm w' ow x st1 h' [[letterOf 0 1 code0 cert0],[]]∧FarmUp w' ow st1 h' [job1] 1:=by
 have hlen:h.bs.length=2:=f.lens.1
 obtain⟨v0,hv0⟩:∃ v0,h.bxs.getD 1 []=[v0]:=by
  have:=(f.letters 1 (by omega)).1
  exact List.length_eq_one_iff.1 this
 have hx0:h.bxs.getD 0 []=[]:=by
  have:=(f.letters 0 (by omega)).1
  exact List.length_eq_zero_iff.1 this
 obtain⟨Ab,cb,ebv,-,hrow,-⟩:=f.row
 rw[hlen] at ebv
 obtain⟨bb,ob,rfl,y1⟩:=hrow 1 (by simp;omega)
 obtain⟨bb',ob',e,y0⟩:=hrow 0 (by simp;omega)
 cases e
 simp only[List.getElem_map] at y0 y1
 have d12:w.cell? ⟨x,12,none⟩=some (.slice (some ⟨bb,ob,none⟩) 2 cb):=by rw[←ebv];exact f.cell 12
 have d1:w.cell? ⟨x,1,none⟩=some (.int .i64 1):=f.cell 1
 have h1:1 < h.bs.length:=by omega
 have hp:=f.size
 have HF:=Hm (And.intro f (And.intro u (And.intro ht ho)))
 clear f u ht hrow
 have hw0:IntKind.u64.wrap 0=0:=rfl
 have hw1:IntKind.u64.wrap 1=1:=rfl
 have hi0:IntKind.i64.wrap 0=0:=rfl
 have hi1:IntKind.i64.wrap 1=1:=rfl
 have hm0:(0:Int).tmod 1=0:=rfl
 go_enter Tryz.func29,Tryz.ntmps29
 go_wp2_with fail
 refine rgn [.rd 0,.rd 1,.rd 2,.rd 3,.rd 4,.rd 5,.rd 6,.rd 7,.rd 8,.rd 9,.rd 10,.rd 11,.rd 12,.rd 13,.rd 14,.rd 15,.rd 16,.hv 17 [],.rd 18,.rd 19,.rd 20,.rd 21,.rd 22] (n:=50) rfl ?_
 iterate 12 (refine line_rd rfl (λK hK=>?_);go_simp;refine hK _ ?_;clear hK K)
 refine line_rd rfl (λK hK=>?_)
 go_simp
 try simp only[hw0,hw1,hm0]
 try go_simp
 refine hK _ ?_
 clear hK K
 iterate 2 (refine line_rd rfl (λK hK=>?_);go_simp;(try simp only[hw0,hw1,hm0,hi0]);refine hK _ ?_;clear hK K)
 refine line_rd rfl (λK hK=>?_)
 go_simp
 (try simp only[hi1])
 (try go_simp)
 refine hK _ ?_
 clear hK K
 refine line_rd rfl (λK hK=>?_)
 go_simp
 refine hK _ ?_
 clear hK K
 refine line_hv rfl ?_
 go_wp2_with fail
 have hbd:Bel w w.drew:=bD (bR w)
 generalize w.drew=V at hbd⊢
 have fV:=HF.o.1.bel hbd
 have uV:=HF.o.2.1.bel hbd
 have tV:=HF.o.2.2.1.bel hbd
 have bx:=(fV.boxes 1 h1).1
 rw[hv0] at bx
 refine(Bx.take_some h.bs[1].1 h.bs[1].2 st1.box v0 [] V bx).mono ?_
 rintro e w2 ⟨rfl,hs2⟩
 obtain⟨t2,f2,l2⟩:=took_at fV 1 h1 v0 [] ask0 [] hv0 rfl hs2
 obtain⟨Aa,ca,rfl,hBa,hca,-⟩:=l2
 have u2:=(uV.turn t2 (by omega)).boxes (h.bxs.set 1 [])
 have tab2:=tV.turn t2 (by rw[HF.o.2.2.2];omega)
 have HT2:=Hm (Only.belLeft hbd t2.only)
 have HF2:=Hm (And.intro f2 (And.intro u2 tab2))
 have HS2:=Hm (serve_one 0 1 (by omega) (by omega) Aa ca w2 tab2 hBa hca)
 have hs2':w.heap.size≤w2.heap.size:=HT2.o.size
 rw[show (layF 2 (askBody 0 1 3 fun0)).length=ask0.length from rfl] at HS2
 have d12':w2.cell? ⟨x,12,none⟩=some (.slice (some ⟨bb,ob,none⟩) 2 cb):=by rw[←ebv];exact f2.cell 12
 clear t2 f2 u2 tab2 hbd fV uV tV bx hs2 hBa hca
 go_wp2_with fail
 refine⟨?_,?_⟩
 ·exact trivial
 iterate 5 (refine line_rd rfl (λK hK=>?_);go_simp;refine hK _ ?_;clear hK K)
 unfold Line
 go_wp2_with fail
 refine HS2.o.mono ?_
 rintro e w3 ⟨hb3,v3,rfl,hn3⟩
 obtain⟨A3,c3,rfl⟩:∃ A c,v3=.slice A (letterOf 0 1 code0 cert0).length c:=by
  obtain⟨A3,c3,e,-⟩:=hn3
  exact⟨A3,c3,e⟩
 have d12:=bCell hb3 d12'
 have HB3:=Hm hb3
 have HN3:=Hm hn3
 have hs3:=hb3.size
 have hp3:x < w3.heap.size:=by omega
 have h0:0 < h.bs.length:=by omega
 have eb0:(h.bxs.set 1 []).getD 0 []=[]:=by
  simp only[List.getD_eq_getElem?_getD] at hx0⊢
  rw[List.getElem?_set_ne (by omega)]
  exact hx0
 have bx0:=((HF2.o.1.bel hb3).boxes 0 h0).1
 simp only[eb0] at bx0
 have HPut:=Hm (λ(v:Value)=>Bx.put_room h.bs[0].1 h.bs[0].2 st1.box [] v w3 bx0 (by simp[st1,st0]))
 obtain⟨Ab2,cb2,ebv2,-,hrow2,-⟩:=(HF2.o.1.bel hb3).row
 simp only at ebv2
 rw[ebv,hlen] at ebv2
 cases ebv2
 obtain⟨bb2,ob2,e,z0⟩:=hrow2 0 (by simp;omega)
 cases e
 simp only[List.getElem_map,Nat.add_zero] at z0
 have u3:=HF2.o.2.1
 have f3:=HF2.o.1
 have hlet:(([[],[ask0]]:List (List (List UInt8))).set 1 []).getD 0 []=[]:=rfl
 obtain⟨bp0,hbp0⟩:∃ bp0,h.bs[0].1=bp0:=⟨_,rfl⟩
 rw[hbp0] at z0 HPut
 clear hrow2 bx0 hb3 hn3 d12' HS2
 go_wp2_with fail
 refine(HPut.o _).mono ?_
 rintro e w5 ⟨rfl,hs5⟩
 obtain⟨t5,f5⟩:=sent_at f3 0 h0 HB3.o HN3.o (by simp only[eb0];exact hs5) (by simp[hlet,st1,st0])
 simp only[eb0,List.nil_append] at f5
 have u5:=(u3.turn t5 (by omega)).boxes ((h.bxs.set 1 []).set 0 [.slice A3 (letterOf 0 1 code0 cert0).length c3])
 have hfin:∃ h',Turn w w5 ow ow (λn=>n=10∨n=11)∧Farm w5 ow x st1 h' [[letterOf 0 1 code0 cert0],[]]∧FarmUp w5 ow st1 h' [job1] 1 :=
  ⟨_,⟨(HT2.o.weaken (G:=λb=>ow b=10∨ow b=11) (λb _ e=>.inr e)).trans t5.only (λb _ e=>.inl e),λ_ _=>rfl,by omega⟩,f5,⟨u5.ex,u5.len,u5.done⟩⟩
 have HFin:=Hm hfin
 clear hfin t5 f5 u5 hs5 HPut HN3 HB3 HF2 HT2 HF f3 u3 z0 d12 y0 y1 eb0 hx0 hv0
 go_wp2_with fail
 exact bodyPost_ret (v:=.int .i64 0) (by simp[results,Tryz.results29,go_sem]) rfl ⟨rfl,HFin.o⟩
theorem do_take (x:Nat) (w:World) (r:Int) (P:World→Prop) (who:Int) (best:Bool) (keep body:Value) (hk:keep.oneCell'=true) (hb:body.oneCell'=true)
  (H:∀ w1,Bel w w1→Calls Tryz.prog 30 #[.pointer (some ⟨x,0,none⟩),.bool false,.slice none 0 0] w1 λe w'=>e=.returned (.int .i64 r)∧P w') :
  Calls Tryz.prog 11 #[.pointer (some ⟨x,0,none⟩),actV 3 who best keep body] w λe w'=>e=.returned (.int .i64 r)∧P w':=by
 have HH:=Hm H
 clear H
 unfold actV
 go_enter Tryz.func11,Tryz.ntmps11
 go_wp2_with fail
 refine(HH.o _ (bA (bR w) _)).mono ?_
 rintro e w1 ⟨rfl,hP⟩
 have HP:=Hm hP
 clear hP
 go_wp2_with fail
 go_ret
 exact⟨rfl,HP.o⟩
theorem do_tick (x:Nat) (w:World) (r:Int) (P:World→Prop) (who:Int) (best:Bool) (keep body:Value) (hk:keep.oneCell'=true) (hb:body.oneCell'=true)
  (H:∀ w1,Bel w w1→Calls Tryz.prog 28 #[.pointer (some ⟨x,0,none⟩)] w1 λe w'=>e=.returned (.int .i64 r)∧P w') :
  Calls Tryz.prog 11 #[.pointer (some ⟨x,0,none⟩),actV 1 who best keep body] w λe w'=>e=.returned (.int .i64 r)∧P w':=by
 have HH:=Hm H
 clear H
 unfold actV
 go_enter Tryz.func11,Tryz.ntmps11
 go_wp2_with fail
 refine(HH.o _ (bA (bR w) _)).mono ?_
 rintro e w1 ⟨rfl,hP⟩
 have HP:=Hm hP
 clear hP
 go_wp2_with fail
 go_ret
 exact⟨rfl,HP.o⟩
theorem do_work (x:Nat) (w:World) (r:Int) (P:World→Prop) (who:Int) (best:Bool) (keep body:Value) (hk:keep.oneCell'=true) (hb:body.oneCell'=true)
  (H:∀ w1,Bel w w1→Calls Tryz.prog 29 #[.pointer (some ⟨x,0,none⟩),.int .i64 who,.bool best] w1 λe w'=>e=.returned (.int .i64 r)∧P w') :
  Calls Tryz.prog 11 #[.pointer (some ⟨x,0,none⟩),actV 2 who best keep body] w λe w'=>e=.returned (.int .i64 r)∧P w':=by
 have HH:=Hm H
 clear H
 unfold actV
 go_enter Tryz.func11,Tryz.ntmps11
 go_wp2_with fail
 refine(HH.o _ (bA (bR w) _)).mono ?_
 rintro e w1 ⟨rfl,hP⟩
 have HP:=Hm hP
 clear hP
 go_wp2_with fail
 go_ret
 exact⟨rfl,HP.o⟩
theorem st0_conf:CfOk st0:=⟨by simp[st0],by simp[st0],by simp[st0],by simp[st0],by simp[st0],by simp[st0],by simp[st0],by simp[st0];exact fun0_ok⟩
theorem st0_ok:StOk st0:=⟨by simp[st0],by simp[st0],by simp[st0,Ls.bad],by simp[st0,Ls.bad],by simp[st0,Ls.bad],by simp[st0],by simp[st0],rfl⟩
theorem fs0_fine:FsFine st0.fs:=⟨by simp[st0,fun0];decide,by simp[st0,fun0,binI],by simp[st0,fun0]⟩
theorem code0_len:(encCode code0).length≤20:=by
 simp[encCode,code0,encBlocks,encBlock,encIns,encEnd,flatL,bin0,filI,leb_small]
theorem rec0_len:(recB 0 (encCode code0)).length≤30:=by
 have h1:=code0_len
 have h2:=leb_len10 (n:=0) (by omega)
 unfold recB
 rw[List.length_append]
 omega
theorem room0:roomFor st1 0 (encCode code0)≤1000:=by
 have h1:=rec0_len
 have h2:=leb_len10 (n:=(recB 0 (encCode code0)).length) (by omega)
 have h3:(laid (recsOf st1.js)).length=0:=rfl
 unfold roomFor
 rw[h3]
 unfold layF
 simp only[List.length_cons,List.length_append,four_len]
 omega
theorem tell0_ok:TellOk st1 0 1 code0 cert0:=⟨by simp[st1,st0],by omega,by omega,rfl,code0_ok,code0_fine,by simp[cert0],cert0_fine,by have:=tell0_len 0 1 (by omega) (by omega);omega,λh=>code0_ver⟩
theorem awake_any (w:World) (ht:TabOk w):Calls Tryz.prog 7 #[] w λe w'=>e=.returned (.bool true)∧Bel w w':=by
 have HT:=Hm ht
 have hz:=World.block_lt_of_cell? w _ ht.1
 dsimp only at hz
 clear ht
 go_enter Tryz.func7,Tryz.ntmps7
 go_wp2_with fail
 have hfz:Kd.SK kI w (λ_=>True) ([]:List Int) (.slice none 0 0):=Kd.SK.nil 0 (by simp[maxLen]) none
 have hI:=sk_one (k:=kIns) w (λ_=>True) binI [.int .u8 3,.int .u8 1,.int .i64 1,.int .i64 0,.int .i64 0,.int .i64 0,.slice none 0 0] 91 w.heap.size rfl trivial (kIns_mk (i:=binI) ⟨rfl,rfl,rfl,rfl,rfl,rfl⟩ (sk_bel hfz (bA (bR w) _)))
 have hb1:Bel w (w.alloc (.cells #[.int .u8 3,.int .u8 1,.int .i64 1,.int .i64 0,.int .i64 0,.int .i64 0,.slice none 0 0] 91)):=bA (bR w) _
 have hz1:(w.alloc (.cells #[.int .u8 3,.int .u8 1,.int .i64 1,.int .i64 0,.int .i64 0,.int .i64 0,.slice none 0 0] 91)).heap.size=w.heap.size+1:=by simp
 have hI':Kd.SK kIns (w.alloc (.cells #[.int .u8 3,.int .u8 1,.int .i64 1,.int .i64 0,.int .i64 0,.int .i64 0,.slice none 0 0] 91)) (λ_=>True) [binI] (.slice (some ⟨w.heap.size,0,none⟩) 1 1):=hI
 clear hI
 generalize w.alloc (.cells #[.int .u8 3,.int .u8 1,.int .i64 1,.int .i64 0,.int .i64 0,.int .i64 0,.slice none 0 0] 91)=w1 at hI' hb1 hz1⊢
 have hB:Kd.SK kBlock (w1.alloc (.cells #[.slice (some ⟨w.heap.size,0,none⟩) 1 1,.int .u8 3,.int .i64 1,.int .i64 0,.int .i64 0] 97)) (λ_=>True) fun0.blocks (.slice (some ⟨w.heap.size+1,0,none⟩) 1 1) :=
  sk_one (k:=kBlock) w1 (λ_=>True) ⟨[binI],retE⟩ [.slice (some ⟨w.heap.size,0,none⟩) 1 1,.int .u8 3,.int .i64 1,.int .i64 0,.int .i64 0] 97 (w.heap.size+1) hz1.symm trivial (kBlock_mk (b:=⟨[binI],retE⟩) ⟨rfl,rfl,rfl,rfl⟩ (sk_bel hI' (bA (bR _) _)))
 have hb2:=bA hb1 (.cells #[.slice (some ⟨w.heap.size,0,none⟩) 1 1,.int .u8 3,.int .i64 1,.int .i64 0,.int .i64 0] 97)
 have hz2:(w1.alloc (.cells #[.slice (some ⟨w.heap.size,0,none⟩) 1 1,.int .u8 3,.int .i64 1,.int .i64 0,.int .i64 0] 97)).heap.size=w.heap.size+1+1:=by simp[hz1]
 generalize w1.alloc (.cells #[.slice (some ⟨w.heap.size,0,none⟩) 1 1,.int .u8 3,.int .i64 1,.int .i64 0,.int .i64 0] 97)=w2 at hB hb2 hz2⊢
 have hb3:=bA hb2 (.cells #[.int .i64 1,.int .i64 2,.slice (some ⟨w.heap.size+1,0,none⟩) 1 1] 99)
 have hB3:=sk_bel hB (bA (bR w2) (.cells #[.int .i64 1,.int .i64 2,.slice (some ⟨w.heap.size+1,0,none⟩) 1 1] 99))
 have hz3:(w2.alloc (.cells #[.int .i64 1,.int .i64 2,.slice (some ⟨w.heap.size+1,0,none⟩) 1 1] 99)).heap.size=w.heap.size+1+1+1:=by simp[hz2]
 generalize w2.alloc (.cells #[.int .i64 1,.int .i64 2,.slice (some ⟨w.heap.size+1,0,none⟩) 1 1] 99)=w3 at hB3 hb3 hz3⊢
 have hF:Kd.SK kFunc (w3.alloc (.cells #[.int .i64 1,.int .i64 2,.slice (some ⟨w.heap.size+1,0,none⟩) 1 1] 99)) (λ_=>True) st0.fs (.slice (some ⟨w.heap.size+1+1+1,0,none⟩) 1 1) :=
  sk_one (k:=kFunc) w3 (λ_=>True) fun0 [.int .i64 1,.int .i64 2,.slice (some ⟨w.heap.size+1,0,none⟩) 1 1] 99 (w.heap.size+1+1+1) hz3.symm trivial (kFunc_mk (f:=fun0) rfl rfl (sk_bel hB3 (bA (bR _) _)))
 have hb4:=bA hb3 (.cells #[.int .i64 1,.int .i64 2,.slice (some ⟨w.heap.size+1,0,none⟩) 1 1] 99)
 generalize w3.alloc (.cells #[.int .i64 1,.int .i64 2,.slice (some ⟨w.heap.size+1,0,none⟩) 1 1] 99)=X at hF hb4⊢
 have HB4:=Hm hb4
 clear hfz hI' hb1 hz1 hB hb2 hz2 hb3 hB3 hz3
 refine(new_farm st0 st0_conf st0_ok rfl fs0_fine _ _ X hF 0 (Nat.zero_le _) (λ_ _=>Nat.zero_le _)).mono ?_
 rintro e w5 ⟨x,ow,h,jobs,rfl,hb5,how,f5,u5,rfl⟩
 have HB5:=Hm (bT hb4 hb5)
 have HF5:=Hm (And.intro f5 u5)
 have hX:=hb4.size
 replace how:∀ b,b < X.heap.size→ow b=0:=λb hb=>by rw[how b hb,if_neg (by omega)]
 have HW:=Hm (And.intro (how 0 (by omega)) (λb (hb:b < w.heap.size)=>how b (by omega)))
 clear hF hb4 hb5 how f5 u5 hX
 go_wp2_with fail
 refine(do_tick x w5 0 _ 0 false (.slice none 0 0) (.slice none 0 0) rfl rfl (λw6 hb=>(tick_one w6 ow x h (HF5.o.1.bel hb) (HF5.o.2.bel hb)).mono (λe w' he=>⟨he.1,(⟨w6,hb,he.2⟩:∃ w6,Bel w5 w6∧∃ h',Turn w6 w' ow ow (λn=>n=4∨n=5∨n=11)∧Farm w' ow x st1 h' [[],[ask0]]∧FarmUp w' ow st1 h' [job1] 1)⟩))).mono ?_
 rintro e w7 ⟨rfl,w6,hb6,h7,t7,f7,u7⟩
 have hO7:Only w5 w7 (λb=>ow b≠0):=Only.belLeft hb6 (t7.only.weaken (λb _ e=>by omega))
 have HO7:=Hm (Only.belLeft HB5.o hO7)
 have HF7:=Hm (And.intro f7 (And.intro u7 (TabOk.turn (HT.o.bel (bT HB5.o hb6)) t7 (by rw[HW.o.1];omega))))
 clear hb6 t7 f7 u7 hO7 HF5
 go_wp2_with fail
 refine(do_work x w7 0 _ 0 false (.slice none 0 0) (.slice none 0 0) rfl rfl (λw8 hb=>(work_one w8 ow x h7 (HF7.o.1.bel hb) (HF7.o.2.1.bel hb) (HF7.o.2.2.bel hb) HW.o.1).mono (λe w' he=>⟨he.1,(⟨w8,hb,he.2⟩:∃ w8,Bel w7 w8∧∃ h',Turn w8 w' ow ow (λn=>n=10∨n=11)∧Farm w' ow x st1 h' [[letterOf 0 1 code0 cert0],[]]∧FarmUp w' ow st1 h' [job1] 1)⟩))).mono ?_
 rintro e w9 ⟨rfl,w8,hb8,h9,t9,f9,u9⟩
 have HO9:=Hm (HO7.o.trans (Only.belLeft hb8 (t9.only.weaken (G:=λb=>ow b≠0) (λb _ e=>by omega))) (λb _ e=>e))
 have HF9:=Hm (And.intro f9 u9)
 clear hb8 t9 f9 u9 HF7 HO7
 go_wp2_with fail
 have hl9:=(HF9.o.1.letters 0 (by have:=HF9.o.1.lens.1;simp[st1,st0] at this;omega))
 obtain⟨v9,hv9⟩:∃ v9,h9.bxs.getD 0 []=[v9]:=List.length_eq_one_iff.1 hl9.1
 obtain⟨A9,c9,hv9'⟩:∃ A c,v9=.slice A (letterOf 0 1 code0 cert0).length c:=by
  have h1:=hl9.2
  simp only[hv9] at h1
  obtain⟨A,c,e,-⟩:=h1 0 (by simp) (by simp)
  exact⟨A,c,e⟩
 rw[hv9'] at hv9
 have hroom:=room0
 have hrec:(recB 0 (encCode code0)).length≤65536:=by have:=rec0_len;omega
 refine(do_take x w9 0 _ 0 false (.slice none 0 0) (.slice none 0 0) rfl rfl (λw10 hb=>(take_ok w10 ow x st1 h9 _ (HF9.o.1.bel hb) (by simp[st1,st0]) _ _ (HF9.o.2.bel hb) 0 1 code0 cert0 tell0_ok (by simp[st1,st0]) A9 c9 [] [] hv9 rfl hrec hroom (by simp[st1,st0]) (by simp[st1,st0])).mono (λe w' he=>⟨he.1,(⟨w10,hb,he.2⟩:∃ w10,Bel w9 w10∧∃ jobs',TookPost w10 ow x { st1 with js:=st1.js++[(0,encCode code0)] } h9 ([[letterOf 0 1 code0 cert0],[]].set 0 []) jobs' 1 w')⟩))).mono ?_
 rintro e w11 ⟨rfl,w10,hb10,jobs',ow',h11,t11,f11,u11⟩
 have HO11:=Hm (HO9.o.trans (Only.belLeft hb10 t11.only) (λb _ e=>e))
 have HF11:=Hm (And.intro f11 u11)
 clear hb10 t11 f11 u11 HF9 HO9 hl9 hv9 hv9'
 go_wp2_with fail
 refine(jobs_rows w11 ow' x _ h11 _ HF11.o.1 jobs' 1 HF11.o.2).mono ?_
 rintro e w12 ⟨hb12,vj,rfl,hj12⟩
 have hjl:jobs'.length=1:=HF11.o.2.len
 have hjd:=HF11.o.2.done 0 (by omega)
 obtain⟨gj,cj,rfl,hgj,-,hcj⟩:=hj12.form (by omega)
 have y0:=hcj 0 (by omega) 0 (by omega)
 rw[hjl]
 have hdt:decide (0∈({ st1 with js:=st1.js++[(0,encCode code0)] }:FSt).js.map (·.1))=true:=by simp[st1,st0]
 rw[show jobs'[0].cells[0]?=some (.bool jobs'[0].done) from rfl,hjd,hdt] at y0
 replace y0:w12.cell? ⟨gj,0,none⟩=some (.bool true):=y0
 have HF12:=Hm (And.intro (HF11.o.1.bel hb12) (HF11.o.2.bel hb12))
 have HB12:=Hm (Only.trans (G:=λ_=>False) HO11.o (Only.bel hb12) (λ_ _ e=>e.elim))
 clear hb12 hj12 hcj HF11 HO11
 go_wp2_with fail
 have hcode:=code_some w12 ow' x { st1 with js:=st1.js++[(0,encCode code0)] } h11 _ HF12.o.1 jobs' 1 HF12.o.2 0 (by simp[st1,st0]) code0 code0_ok code0_fine rfl (by have:=code0_len;omega)
 refine hcode.mono ?_
 rintro e w13 ⟨hb13,v13,rfl,hk13⟩
 obtain⟨A13,c13,rfl,-⟩:=sk_form hk13
 have y0':=bCell hb13 y0
 have hgl:=World.block_lt_of_cell? w13 _ y0'
 dsimp only at hgl
 have hfb:Bel w w13:=((HB12.o.trans (G:=λ_=>False) (Only.bel hb13) (λ_ _ e=>e.elim))).toBel (λb hb e=>e (HW.o.2 b hb))
 have HFb:=Hm hfb
 clear hb13 hk13 hfb
 rw[show code0.params=1 from rfl,show code0.regs=3 from rfl,show code0.slots=1 from rfl]
 go_wp2_with fail
 exact bodyPost_ret (v:=.bool true) (by simp[results,Tryz.results7,go_sem]) rfl ⟨rfl,bA HFb.o _⟩
theorem strOf {w:World} {A:Option Addr} {l:List UInt8} (h:Bytes w A l) (c:Nat):(convert 38 9 (.slice A l.length c)).run Tryz.prog w=.ok (.string ⟨l.toArray⟩) w:=by
 have h38:Tryz.prog.underlying 38=some (.slice 5):=by kernel_rfl
 have h5:Tryz.prog.underlying 5=some (.int .u8):=by kernel_rfl
 have h9:Tryz.prog.underlying 9=some .string:=by kernel_rfl
 cases A with
 |none =>
  cases l with
  |nil=>exact Go.Lib.run_convert_nil_bytes w 38 9 5 c h38 h5 h9
  |cons x r =>
   obtain⟨b,off,e,-⟩:=h 0 (by simp)
   cases e
 |some a =>
  refine run_convert_bytes_back w 38 9 5 a c l h38 h5 h9 (λj hj=>?_)
  obtain⟨b,off,e,hc⟩:=h j (by simpa using hj)
  cases e
  rw[show (⟨b,off,none⟩:Addr).add j=⟨b,off+j,none⟩ from by unfold Addr.add;split<;>simp_all]
  simpa [byteV] using hc
theorem FarmUp.same {w:World} {ow:Nat→Nat} {st:FSt} {h h':Hds} {jobs:List Ls.Job} {last:Nat} (u:FarmUp w ow st h jobs last) (e1:h'.bp=h.bp) (e2:h'.tp=h.tp) (e3:h'.pf=h.pf):FarmUp w ow st h' jobs last:=by
 obtain⟨⟨pb,base,ok,kv,vv,pt,Bt,a1,a2,a3⟩,hl,hd⟩:=u
 exact⟨⟨pb,base,ok,kv,vv,pt,Bt,by rw[e1];exact a1,by rw[e2];exact a2,by rw[e3];exact a3⟩,hl,hd⟩
theorem Farm.letter {w:World} {ow:Nat→Nat} {x:Nat} {st:FSt} {h:Hds} {lt:List (List (List UInt8))} (f:Farm w ow x st h lt) (L:List UInt8) (hl:lt.getD 0 []=[L]):∃ A c,h.bxs.getD 0 []=[.slice A L.length c]:=by
 have hl9:=f.letters 0 (by have:=f.lens.1;omega)
 rw[hl] at hl9
 obtain⟨v9,hv9⟩:∃ v9,h.bxs.getD 0 []=[v9]:=List.length_eq_one_iff.1 hl9.1
 have h1:=hl9.2
 simp only[hv9] at h1
 obtain⟨A,c,e,-⟩:=h1 0 (by simp) (by simp)
 exact⟨A,c,by rw[hv9];simpa using e⟩
def SentUp (w:World) (ow:Nat→Nat) (x:Nat) (st:FSt) (L:List UInt8) (jobs:List Ls.Job) (last:Nat) (w':World):Prop :=
 ∃ h',Turn w w' ow ow (λn=>n=10)∧Farm w' ow x st h' (List.replicate (st.workers+1) [] |>.set 0 [L])∧FarmUp w' ow st h' jobs last
theorem send_up (w:World) (ow:Nat→Nat) (x:Nat) (st:FSt) (h:Hds) (f:Farm w ow x st h (List.replicate (st.workers+1) [])) (hw3:st.workers≤3) (hb:0 < st.box) (jobs:List Ls.Job) (last:Nat) (u:FarmUp w ow st h jobs last) (L:List UInt8) (A:Option Addr) (c:Nat) (hA:Bytes w A L) (hl:L.length≤131072) (hc:L.length≤c) :
  Calls Tryz.prog 11 #[.pointer (some ⟨x,0,none⟩),actV 7 0 false (.slice none 0 0) (.slice A L.length c)] w λe w'=>e=.returned (.int .i64 0)∧SentUp w ow x st L jobs last w':=by
 have h0:(List.replicate (st.workers+1) ([]:List (List UInt8))).getD 0 []=[]:=by simp[List.replicate_succ]
 refine(send_ok w ow x st h _ f hw3 (by rw[h0];exact hb) (.slice none 0 0) rfl false L A c hA hl hc).mono ?_
 rintro e w' ⟨rfl,h',t,f',e1,e2,e3,e4⟩
 rw[h0] at f'
 exact⟨rfl,h',t,f',(u.turn t (λn e=>by omega)).same e1 e2 e3⟩
theorem set_back (n:Nat) (L:List UInt8):(((List.replicate (n+1) ([]:List (List UInt8))).set 0 [L]).set 0 [])=List.replicate (n+1) []:=by simp[List.replicate_succ]
def TookUp (w:World) (ow:Nat→Nat) (x:Nat) (st:FSt) (last:Nat) (w':World):Prop :=
 ∃ ow' h' jobs',Turn w w' ow ow' (λn=>n≠0)∧Farm w' ow' x st h' (List.replicate (st.workers+1) [])∧FarmUp w' ow' st h' jobs' last
theorem TookUp.from {w w0 w':World} {ow:Nat→Nat} {x:Nat} {st:FSt} {last:Nat} (hb:Bel w0 w) (h:TookUp w ow x st last w'):TookUp w0 ow x st last w':=by
 obtain⟨ow',h',jobs',t,f,u⟩:=h
 exact⟨ow',h',jobs',⟨Only.belLeft hb t.only,λb hb'=>t.old b (Nat.lt_of_lt_of_le hb' hb.size),t.zero⟩,f,u⟩
theorem take_up (w:World) (ow:Nat→Nat) (x:Nat) (st:FSt) (h:Hds) (job lease:Nat) (c:Code) (cert:List (List PairV)) (f:Farm w ow x st h (List.replicate (st.workers+1) [] |>.set 0 [letterOf job lease c cert])) (hw3:st.workers≤3) (jobs:List Ls.Job) (last:Nat) (u:FarmUp w ow st h jobs last) (ht:TellOk st job lease c cert) (hd:job∉st.js.map (·.1))
  (hlr:(recB job (encCode c)).length≤65536) (hr:roomFor st job (encCode c)≤st.room) (hup:∀ p∈st.js,p.1 < job) (hfew:st.js.length < 1000) :
  Calls Tryz.prog 11 #[.pointer (some ⟨x,0,none⟩),actV 3 0 false (.slice none 0 0) (.slice none 0 0)] w λe w'=>e=.returned (.int .i64 0)∧TookUp w ow x { st with js:=st.js++[(job,encCode c)] } last w':=by
 have hl:(List.replicate (st.workers+1) ([]:List (List UInt8)) |>.set 0 [letterOf job lease c cert]).getD 0 []=[letterOf job lease c cert]:=by simp[List.replicate_succ]
 obtain⟨A,ca,hv⟩:=f.letter _ hl
 refine do_take x w 0 _ 0 false (.slice none 0 0) (.slice none 0 0) rfl rfl (λw1 hb=>(take_ok w1 ow x st h _ (f.bel hb) hw3 jobs last (u.bel hb) job lease c cert ht hd A ca [] [] hv hl hlr hr hup hfew).mono ?_)
 rintro e w' ⟨rfl,jobs',ow',h',t,f',u'⟩
 rw[set_back] at f'
 exact⟨rfl,TookUp.from hb ⟨ow',h',jobs',t,f',u'⟩⟩
theorem take_nospace (w:World) (ow:Nat→Nat) (x:Nat) (st:FSt) (h:Hds) (job lease:Nat) (c:Code) (cert:List (List PairV)) (f:Farm w ow x st h (List.replicate (st.workers+1) [] |>.set 0 [letterOf job lease c cert])) (hw3:st.workers≤3) (jobs:List Ls.Job) (last:Nat) (u:FarmUp w ow st h jobs last) (ht:TellOk st job lease c cert) (hd:job∉st.js.map (·.1))
  (hlr:(recB job (encCode c)).length≤65536) (hr:st.room < roomFor st job (encCode c)) :
  Calls Tryz.prog 11 #[.pointer (some ⟨x,0,none⟩),actV 3 0 false (.slice none 0 0) (.slice none 0 0)] w λe w'=>e=.returned (.int .i64 50)∧TookUp w ow x st last w':=by
 have hl:(List.replicate (st.workers+1) ([]:List (List UInt8)) |>.set 0 [letterOf job lease c cert]).getD 0 []=[letterOf job lease c cert]:=by simp[List.replicate_succ]
 obtain⟨A,ca,hv⟩:=f.letter _ hl
 refine do_take x w 50 _ 0 false (.slice none 0 0) (.slice none 0 0) rfl rfl (λw1 hb=>(take_full w1 ow x st h _ (f.bel hb) hw3 jobs last (u.bel hb) job lease c cert ht hd A ca [] [] hv hl hlr hr).mono ?_)
 rintro e w' ⟨rfl,ow',h',t,f',u'⟩
 rw[set_back] at f'
 exact⟨rfl,TookUp.from hb ⟨ow',h',_,t,f',u'⟩⟩
theorem tellOk_nv {st:FSt} {f:Func} {j:Nat} (hf:st.fs[j]?=some f) (hs:Small f) (hj:j < 16) (h3:3≤st.regs) (h8:st.regs≤8) (lease:Nat) (hl:lease < 18446744073709551616) (l:List UInt8):TellOk st j lease (nvCode f st.regs l) (nvCert f st.regs):=by
 obtain⟨hji,rfl⟩:=List.getElem?_eq_some_iff.1 hf
 exact⟨hji,hj,hl,rfl,(nvCode_ok hs h3 h8 l).1,(nvCode_ok hs h3 h8 l).2,by have:=hs.b7;simp[nvCert];omega,nvPairs_fine hs h3 h8,nvTell_len hs h3 h8 j lease hj hl l,λh=>nv_verified hs h3 h8 l⟩
theorem layF_len (k:UInt8) (b:List UInt8) (hb:b.length≤65536):(layF k b).length≤65600:=by
 have h1:=leb_len10 (n:=b.length) (by omega)
 unfold layF
 simp[four]
 omega
theorem letter_len {f:Func} (hs:Small f) {regs:Nat} (h3:3≤regs) (h8:regs≤8) (j lease:Nat) (hj:j < 16) (hl:lease < 18446744073709551616) (l:List UInt8):(letterOf j lease (nvCode f regs l) (nvCert f regs)).length≤131072:=by
 have:=layF_len 3 _ (nvTell_len hs h3 h8 j lease hj hl l)
 unfold letterOf
 omega
theorem rec_len {f:Func} (hs:Small f) {regs:Nat} (h3:3≤regs) (h8:regs≤8) (j:Nat) (hj:j < 16) (l:List UInt8):(recB j (encCode (nvCode f regs l))).length≤31000:=by
 have h1:=nvCode_len hs h3 h8 l
 have h2:=leb_len10 (n:=j) (by omega)
 unfold recB
 rw[List.length_append]
 omega
structure Sl (α:Type) where
 a:Option Addr
 c:Nat
 l:List α
inductive Ty where
 |bool
 |int (k:IntKind)
 |slice (e:Ty)
 |unit
 |pair (a b:Ty)
namespace Ty
def size:Ty→Nat
 |.bool=>1
 |.int _=>1
 |.slice _=>1
 |.unit=>0
 |.pair a b=>a.size+b.size
@[reducible] def El:Ty→Type
 |.bool=>Bool
 |.int _=>Int
 |.slice e=>Sl e.El
 |.unit=>Unit
 |.pair a b=>a.El × b.El
def cells:(t:Ty)→t.El→List Value
 |.bool,b=>[.bool b]
 |.int k,n=>[.int k n]
 |.slice _,s=>[.slice s.a s.l.length s.c]
 |.unit,_=>[]
 |.pair a b,x=>a.cells x.1++b.cells x.2
def Rd (w:World):(t:Ty)→t.El→Prop
 |.bool,_=>True
 |.int k,n=>(Lit.int k n).wf=true
 |.slice e,s=>s.l.length≤s.c∧s.c≤maxLen∧Row w s.a (s.l.flatMap e.cells)∧∀ x∈s.l,e.Rd w x
 |.unit,_=>True
 |.pair a b,x=>a.Rd w x.1∧b.Rd w x.2
mutual
def Fits (P:Program):Ty→TypeId→Prop
 |.bool,t=>P.underlying t=some .bool
 |.int k,t=>P.underlying t=some (.int k)
 |.slice e,t=>∃ u,P.underlying t=some (.slice u)∧P.cellsOf u=e.size∧Fits P e u
 |.unit,t=>∃ fs,P.underlying t=some (.struct fs)∧P.cellsOf t=0∧fs.toList=[]
 |.pair a b,t=>∃ fs,P.underlying t=some (.struct fs)∧P.cellsOf t=a.size+b.size∧∃ f rest,fs.toList=f :: rest∧f.offset=0∧P.cellsOf f.type=a.size∧Fits P a f.type∧FitsL P b rest a.size
def FitsL (P:Program):Ty→List Field→Nat→Prop
 |.unit,fs,_=>fs=[]
 |.pair a b,fs,o=>∃ f rest,fs=f :: rest∧f.offset=o∧P.cellsOf f.type=a.size∧Fits P a f.type∧FitsL P b rest (o+a.size)
 |.bool,_,_=>False
 |.int _,_,_=>False
 |.slice _,_,_=>False
end
theorem cells_length:∀ (t:Ty) (x:t.El),(t.cells x).length=t.size
 |.bool,_=>rfl
 |.int _,_=>rfl
 |.slice _,_=>rfl
 |.unit,_=>rfl
 |.pair a b,x=>by simp[cells,size,cells_length a,cells_length b]
theorem flat_length (e:Ty) (ys:List e.El):(ys.flatMap e.cells).length=ys.length*e.size:=by
 induction ys with
 |nil=>simp
 |cons y ys ih=>rw[List.flatMap_cons,List.length_append,ih,cells_length,List.length_cons,Nat.add_mul,Nat.one_mul,Nat.add_comm]
theorem flat_one {α:Type} (f:α→List Value) (g:α→Value) (h:∀ x,f x=[g x]) (l:List α):l.flatMap f=l.map g:=by
 induction l with
 |nil=>rfl
 |cons x l ih=>rw[List.flatMap_cons,ih,h];rfl
theorem flat_get (e:Ty) (ys:List e.El) (i k:Nat) (hk:k < e.size):(ys.flatMap e.cells)[i*e.size+k]?=(ys[i]?).bind λy=>(e.cells y)[k]?:=by
 induction ys generalizing i with
 |nil=>simp
 |cons y ys ih =>
  rw[List.flatMap_cons]
  cases i with
  |zero =>
   rw[Nat.zero_mul,Nat.zero_add,List.getElem?_append_left (by rw[cells_length];exact hk)]
   simp
  |succ i =>
   rw[Nat.add_mul,Nat.one_mul,List.getElem?_append_right (by rw[cells_length];omega),cells_length,show i*e.size+e.size+k-e.size=i*e.size+k from by omega,ih]
   simp
section
variable {H:Type} {enc:TypeId × Value→H} {P:Program} {w:World}
theorem mapM_range_cells {n:Nat} {a:Addr} {cs:List Value} (h:(List.range n).mapM (λi=>w.cell? (a.add i))=some cs):cs.length=n∧∀ i (hi:i < cs.length),w.cell? (a.add i)=some cs[i]:=by
 have hl:=mapM_some_length h
 rw[List.length_range] at hl
 refine⟨hl,λi hi=>?_⟩
 have:=mapM_some_get h i i (by rw[List.getElem?_range (by omega)])
 rw[this]
 exact List.getElem?_eq_getElem hi
theorem spot_none {a:Addr} {v:Value} (h:w.cell? a=some v):a.spot=none:=by
 unfold World.cell? at h
 split at h
 ·cases hsp:a.spot with
  |none=>rfl
  |some s=>rw[hsp] at h;simp at h
 ·cases h
theorem add_plain {a:Addr} (hs:a.spot=none) (n:Nat):a.add n=⟨a.block,a.off+n,none⟩:=by
 unfold Addr.add
 split
 ·next e=>subst e;cases a;simp_all
 ·rfl
mutual
theorem rd_of_trod:∀ (ty:Ty) (fuel:Nat) (t:TypeId) (cs:List Value) (x:DataW H × List MemPlace),Fits P ty t→DataW.trod enc P w 0 (λ_=>true) true fuel t cs=some x→∃ e:ty.El,cs=ty.cells e∧ty.Rd w e
 |.bool,fuel,t,cs,x,hf,h=>by
  obtain⟨b,e,_⟩:=DataW.trod_bool (show P.underlying t=some .bool from hf) h
  exact⟨b,e,trivial⟩
 |.int k,fuel,t,cs,x,hf,h=>by
  obtain⟨n,e,_,hw⟩:=DataW.trod_int (show P.underlying t=some (.int k) from hf) h
  exact⟨n,e,hw⟩
 |.slice e,fuel,t,cs,x,hf,h=>by
  obtain⟨u,hu,hcu,hfe⟩:=hf
  rcases Deep.open_slice hu h with ⟨rfl,_⟩|⟨a,len,cap,m,n,D,Pl,rfl,_,hl,hm,hmm,_,hel⟩
  ·exact⟨⟨none,0,[]⟩,rfl,Nat.le_refl _,Nat.zero_le _,Row.nil _ _,λx hx=>by cases hx⟩
  ·have hm':m=cap:=by simpa using hmm
   have hone:∀ i,i < len→∃ y:e.El,(∀ j (hj:j < (e.cells y).length),w.cell? ((a.add (i*e.size)).add j)=some (e.cells y)[j])∧e.Rd w y:=by
    intro i hi
    obtain⟨cs',h1,h2⟩:=hel i (by omega)
    obtain⟨y,rfl,hy⟩:=rd_of_trod e n u cs' _ hfe h2
    unfold World.cells? at h1
    rw[if_pos (Nat.zero_le _),hcu] at h1
    obtain⟨_,h3⟩:=mapM_range_cells h1
    exact⟨y,h3,hy⟩
   obtain⟨ys,hyl,hys⟩:∃ ys:List e.El,ys.length=len∧∀ i (hi:i < ys.length),(∀ j (hj:j < (e.cells ys[i]).length),w.cell? ((a.add (i*e.size)).add j)=some (e.cells ys[i])[j])∧e.Rd w ys[i]:=by
    refine⟨(List.finRange len).map λi=>Classical.choose (hone i.1 i.2),by simp,λi hi=>?_⟩
    have hi':i < len:=by simpa using hi
    simpa using Classical.choose_spec (hone i hi')
   refine⟨⟨some a,cap,ys⟩,by simp[cells,hyl],by rw[hyl];exact hl,hm,?_,?_⟩
   ·intro j hj
    have hlen:=flat_length e ys
    have hj0:j < (ys.flatMap e.cells).length:=hj
    replace hj:j < ys.length*e.size:=by rw[←hlen];exact hj0
    have hsz:0 < e.size:=by
     rcases Nat.eq_zero_or_pos e.size with h0|h0
     ·rw[h0] at hj;simp at hj
     ·exact h0
    have hq:j / e.size < ys.length:=by rw[Nat.div_lt_iff_lt_mul hsz];exact hj
    have hr:j % e.size < (e.cells ys[j / e.size]).length:=by rw[cells_length];exact Nat.mod_lt _ hsz
    have hcell:=(hys _ hq).1 _ hr
    have hget:(ys.flatMap e.cells)[j]=(e.cells ys[j / e.size])[j % e.size]:=by
     have h1:=flat_get e ys (j / e.size) (j % e.size) (Nat.mod_lt _ hsz)
     rw[show j / e.size*e.size+j % e.size=j from Nat.div_add_mod' j e.size,List.getElem?_eq_getElem hj0,List.getElem?_eq_getElem hq,Option.bind_some,List.getElem?_eq_getElem hr] at h1
     exact Option.some.inj h1
    rw[Deep.add_add,show j / e.size*e.size+j % e.size=j from Nat.div_add_mod' j e.size] at hcell
    have hs0:a.spot=none:=by
     have hc0:=(hys 0 (Nat.lt_of_le_of_lt (Nat.zero_le _) hq)).1 0 (by rw[cells_length];exact hsz)
     rw[Nat.zero_mul] at hc0
     have:(a.add 0).add 0=a:=rfl
     rw[this] at hc0
     exact spot_none hc0
    rw[add_plain hs0] at hcell
    refine⟨a.block,a.off,by cases a;simp_all,?_⟩
    rw[hcell,hget]
   ·intro x hx
    obtain⟨i,hi,rfl⟩:=List.mem_iff_getElem.1 hx
    exact(hys i hi).2
 |.unit,fuel,t,cs,x,hf,h=>by
  obtain⟨fs,hu,hc,hfs⟩:=hf
  obtain⟨xs,n,_,_,hl,_⟩:=DataW.trod_struct hu h
  rw[hc] at hl
  exact⟨(),List.eq_nil_of_length_eq_zero hl,trivial⟩
 |.pair a b,fuel,t,cs,x,hf,h=>by
  obtain⟨fs,hu,hc,f,rest,hfs,ho,hca,hfa,hfb⟩:=hf
  obtain⟨xs,n,_,_,hl,hxl,hel⟩:=DataW.trod_struct hu h
  rw[hc] at hl
  have hget:∀ (i:Nat) (f':Field),(f :: rest)[i]?=some f'→∃ y,DataW.trod enc P w 0 (λ_=>true) true n f'.type ((cs.drop f'.offset).take (P.cellsOf f'.type))=some y:=by
   intro i f' hi
   have h1:fs[i]?=some f':=by rw[←Array.getElem?_toList,hfs];exact hi
   have h2:=hel i f' h1
   have h3:i < fs.size:=(Array.getElem?_eq_some_iff.1 h1).1
   rw[h2]
   exact⟨_,List.getElem?_eq_getElem (by omega)⟩
  obtain⟨y,hy⟩:=hget 0 f rfl
  rw[ho,hca,List.drop_zero] at hy
  obtain⟨ea,hea,hra⟩:=rd_of_trod a n f.type _ _ hfa hy
  obtain⟨eb,heb,hrb⟩:=rd_of_trodL b n rest a.size cs hfb (by omega) (λi f' hi=>hget (i+1) f' (by simpa using hi))
  refine⟨(ea,eb),?_,hra,hrb⟩
  show cs=a.cells ea++b.cells eb
  rw[←hea,←heb]
  exact(List.take_append_drop _ _).symm
theorem rd_of_trodL:∀ (ty:Ty) (n:Nat) (fs:List Field) (o:Nat) (cs:List Value),FitsL P ty fs o→cs.length=o+ty.size →
  (∀ (i:Nat) f,fs[i]?=some f→∃ y,DataW.trod enc P w 0 (λ_=>true) true n f.type ((cs.drop f.offset).take (P.cellsOf f.type))=some y)→∃ e:ty.El,cs.drop o=ty.cells e∧ty.Rd w e
 |.bool,_,_,_,_,hf,_,_=>hf.elim
 |.int _,_,_,_,_,hf,_,_=>hf.elim
 |.slice _,_,_,_,_,hf,_,_=>hf.elim
 |.unit,n,fs,o,cs,hf,hl,_=>⟨(),List.drop_eq_nil_of_le (by simp only[size] at hl;omega),trivial⟩
 |.pair a b,n,fs,o,cs,hf,hl,hget=>by
  obtain⟨f,rest,rfl,ho,hca,hfa,hfb⟩:=hf
  simp only[size] at hl
  obtain⟨y,hy⟩:=hget 0 f rfl
  rw[ho,hca] at hy
  obtain⟨ea,hea,hra⟩:=rd_of_trod a n f.type _ _ hfa hy
  obtain⟨eb,heb,hrb⟩:=rd_of_trodL b n rest (o+a.size) cs hfb (by omega) (λi f' hi=>hget (i+1) f' (by simpa using hi))
  refine⟨(ea,eb),?_,hra,hrb⟩
  show cs.drop o=a.cells ea++b.cells eb
  rw[←hea,←heb,←List.drop_drop]
  exact(List.take_append_drop _ _).symm
end
end
end Ty
theorem nat8 {n:Int} (h:(Lit.int .u8 n).wf=true):∃ m:Nat,n=m∧m < 256:=by
 have:=wf8.1 h
 exact⟨n.toNat,by omega,by omega⟩
theorem nat16 {n:Int} (h:(Lit.int .u16 n).wf=true):∃ m:Nat,n=m∧m < 65536:=by
 simp[Lit.wf,IntKind.min,IntKind.max,IntKind.bits,IntKind.signed] at h
 exact⟨n.toNat,by omega,by omega⟩
theorem nat64' {n:Int} (h:(Lit.int .u64 n).wf=true):∃ m:Nat,n=m:=by
 simp[Lit.wf,IntKind.min,IntKind.max,IntKind.bits,IntKind.signed] at h
 exact⟨n.toNat,by omega⟩
def toByte (n:Int):UInt8:=UInt8.ofNat n.toNat
theorem toByteV {n:Int} (h:(Lit.int .u8 n).wf=true):byteV (toByte n)=.int .u8 n:=by
 have:=wf8.1 h
 unfold toByte
 rw[byteV_of _ (by omega)]
 congr 1
 omega
theorem bytes_of {w:World} {s:Sl Int} (h:Ty.Rd w (.slice (.int .u8)) s):∃ l:List UInt8,s.l.length=l.length∧l.length≤s.c∧s.c≤maxLen∧Bytes w s.a l:=by
 obtain⟨h1,h2,h3,h4⟩:=h
 refine⟨s.l.map toByte,by simp,by simpa using h1,h2,?_⟩
 unfold Bytes
 have e:(s.l.map toByte).map byteV=s.l.flatMap (Ty.cells (.int .u8)):=by
  rw[List.map_map,Ty.flat_one (Ty.cells (.int .u8)) (Value.int .u8) (λ_=>rfl) s.l]
  refine List.map_congr_left λn hn=>?_
  exact toByteV (h4 n hn)
 rw[e]
 exact h3
abbrev tySpec:Ty:=.pair (.int .u8) (.pair (.int .u8) (.pair (.int .u8) (.pair (.slice (.int .u8)) .unit)))
theorem spec_one {w:World} (x:Ty.El tySpec) (h:Ty.Rd w tySpec x):∃ s:SpecV,kSpec.K w (λ_=>True) s (Ty.cells tySpec x):=by
 obtain⟨a,b,c,sl,⟨⟩⟩:=x
 obtain⟨h1,h2,h3,h4,-⟩:=h
 obtain⟨a,rfl,ha⟩:=nat8 (n:=a) h1
 obtain⟨b,rfl,hb⟩:=nat8 (n:=b) h2
 obtain⟨c,rfl,hc⟩:=nat8 (n:=c) h3
 obtain⟨l,hl,hl2,hl3,hB⟩:=bytes_of (s:=sl) h4
 refine⟨⟨a,b,c,l⟩,[_],_,rfl,⟨rfl,h1⟩,[_],_,rfl,⟨rfl,h2⟩,[_],_,rfl,⟨rfl,h3⟩,.slice sl.a l.length sl.c,?_,sl.a,sl.c,l.map byteV,rfl,hl2,hl3,RowIn.of hB (λ_ _=>trivial),all_b8.2 rfl⟩
 show [Value.slice sl.a sl.l.length sl.c]++[]=_
 rw[hl]
 rfl
theorem specs_all {w:World}:∀ (l:List (Ty.El tySpec)),(∀ x∈l,Ty.Rd w tySpec x)→∃ fs:List SpecV,fs.length=l.length∧kSpec.All w (λ_=>True) fs (l.flatMap (Ty.cells tySpec))
 |[],_=>⟨[],rfl,rfl⟩
 |x :: r,h=>by
  obtain⟨s,hs⟩:=spec_one x (h x (by simp))
  obtain⟨fs,hl,ha⟩:=specs_all r (λy hy=>h y (by simp[hy]))
  exact⟨s :: fs,by simp[hl],_,_,rfl,hs,ha⟩
theorem specs_of {w:World} {s:Sl (Ty.El tySpec)} (h:Ty.Rd w (.slice tySpec) s):∃ fs:List SpecV,s.l.length=fs.length∧Kd.SK kSpec w (λ_=>True) fs (.slice s.a fs.length s.c):=by
 obtain⟨h1,h2,h3,h4⟩:=h
 obtain⟨fs,hl,ha⟩:=specs_all s.l h4
 exact⟨fs,hl.symm,s.a,s.c,_,rfl,by omega,h2,RowIn.of h3 (λ_ _=>trivial),ha⟩
theorem refSum_any (A:Option Addr) (c:Nat) (l:List UInt8) (w:World) (h:Bytes w A l) (hl:l.length≤9223372036854775807) :
  Calls Tryz.prog 96 #[.slice A l.length c] w λe w'=>e=.returned (.int .u32 (csum l:Nat))∧w=w':=by
 have H:=Hm h
 clear h
 go_enter Tryz.func96,Tryz.ntmps96
 go_wp2
 go_loop [3,4] (λx i=>∃ k:Nat,k≤l.length∧i=.int .i64 k∧x=.int .u32 (cbytes 4294967295 (l.take k):Nat)) (λ_ i=>l.length-(intOf i).toNat)
 case atStart=>exact⟨0,Nat.zero_le _,rfl,rfl⟩
 case round =>
  obtain⟨j,hj,rfl,rfl⟩:=hrel
  obtain⟨Y,hY⟩:∃ Y,Y=cbytes 4294967295 (l.take j):=⟨_,rfl⟩
  rw[←hY]
  have hYl:Y < 4294967296:=by rw[hY];exact cbytes_lt _ (by decide)
  have HY:=Hm hY
  clear hY
  by_cases hlt2:j < l.length
  ·obtain⟨b2,off2,rfl,hc2⟩:=H.o.at_ j hlt2
   obtain⟨d,hd⟩:∃ d,d=l[j].toNat:=⟨_,rfl⟩
   rw[←hd] at hc2
   have hcl:d < 256:=by rw[hd];exact l[j].toNat_lt
   have HD:=Hm hd
   clear hd
   obtain⟨Z,hZ⟩:∃ Z,Z=Y ^^^ d:=⟨_,rfl⟩
   have e0:bits BinOp.xor IntKind.u32 (Y:Int) (d:Int)=(Z:Int):=by rw[hZ];exact u32_xor_cast _ _ hYl (by omega)
   have hZl:Z < 4294967296:=by rw[hZ];exact Nat.xor_lt_two_pow (n:=32) hYl (by omega)
   have HZ:=Hm hZ
   clear hZ hYl
   go_wp2
   go_loop [3,5] (λx i=>∃ m:Nat,m≤8∧i=.int .i64 m∧x=.int .u32 (csteps m Z:Nat)) (λ_ i=>8-(intOf i).toNat)
   case atStart=>exact⟨0,by omega,rfl,rfl⟩
   case round =>
    obtain⟨m,hm,rfl,rfl⟩:=hrel
    obtain⟨V,hV⟩:∃ V,V=csteps m Z:=⟨_,rfl⟩
    rw[←hV]
    have hVl:V < 4294967296:=by rw[hV];exact csteps_lt _ hZl
    have HV:=Hm hV
    clear hV
    by_cases hlt3:m < 8
    ·by_cases hodd:V % 2=1
     ·have hb:((V:Int) % 2 == 1)=true:=by rw[beq_iff_eq];omega
      go_wp2
      go_round
      case rel =>
       refine⟨m+1,by omega,by go_num,?_⟩
       rw[csteps_succ,←HV.o,cstep,if_pos hodd,←u32_xor_nat _ _ (by omega) (by decide)]
       go_num
      case measure=>simp[intOf];omega
     ·have hb:((V:Int) % 2 == 1)=false:=by rw[beq_eq_false_iff_ne];omega
      go_wp2
      go_round
      case rel =>
       refine⟨m+1,by omega,by go_num,?_⟩
       rw[csteps_succ,←HV.o,cstep,if_neg hodd,Nat.xor_zero]
       go_num
      case measure=>simp[intOf];omega
    ·obtain rfl:m=8:=by omega
     clear e0 hZl hcl hVl
     go_wp2
     go_round
     case rel =>
      refine⟨j+1,by omega,by go_num,?_⟩
      rw[HV.o,HZ.o,HY.o,cbytes_snoc _ l j hlt2,HD.o]
     case measure=>simp[intOf];omega
  ·obtain rfl:j=l.length:=by omega
   go_wp2
   go_ret
   refine⟨ret_int ?_,rfl⟩
   rw[show (4294967295:Int)=((4294967295:Nat):Int) from rfl,u32_xor_nat _ _ hYl (by decide),HY.o,List.take_length]
   rfl
theorem refCheck_any (k:UInt8) (A:Option Addr) (ca:Nat) (b:List UInt8) (w:World) (hA:Bytes w A b) (hb:b.length≤10000000) :
  Calls Tryz.prog 59 #[byteV k,.slice A b.length ca] w λe w'=>Bel w w'∧∃ V,e=.returned V∧NewB w w' V (four (csum (k :: b))):=by
 have HA:=Hm hA
 have HB:=Hm hb
 clear hA hb
 unfold byteV
 have hx8:=UInt8.toNat_lt k
 have ho0:(w.alloc (.cells #[.int .u8 k.toNat] 5)).ownsRow w.heap.size 5 1 (.slice (some ⟨w.heap.size,0,none⟩) 1 1) 1 [byteV k] :=
  ⟨rfl,.inr ⟨w.heap.size,1,#[.int .u8 k.toNat],rfl,Nat.le_refl _,heap_new _ _,Nat.le_refl _,by unfold maxLen;omega,rfl,rfl⟩⟩
 have HO:=Hm ho0
 clear ho0
 go_enter Tryz.func59,Tryz.ntmps59
 go_wp2_with (first
  |(at_builtin;refine app iByte Tryz.underlying38 rfl (.tmp 7) (.tmp 8) rfl rfl HO.o (by simp) (A:=A) (m:=b.length) (c:=ca) rfl (HA.o.below (bA (bR w) _)) (by simp) byte_one (by have:=HB.o;omega) ?_)
  |fail)
 intro v1 w1 ho1 hg1
 have HB1:Hd (Bel w w1):=⟨bG (bA (bR w) _) hg1 (λk hk=>(HO.o.lt k hk).1)⟩
 have ho1':OwnB w1 w.heap.size v1 (k :: b):=by
  unfold OwnB
  simpa [Nat.add_comm] using ho1
 obtain⟨A1,c1,rfl,hr1,-,-,hc1,-⟩:=own_row ho1'
 have HR1:=Hm hr1
 clear ho1 hg1 ho1' hr1
 go_wp2_with fail
 refine(refSum_any A1 c1 (k :: b) w1 HR1.o (by have:=HB.o;simp;omega)).mono ?_
 rintro e w2 ⟨rfl,rfl⟩
 have hn:csum (k :: b) < 4294967296:=csum_lt _
 obtain⟨n,hnn⟩:∃ n,csum (k :: b)=n:=⟨_,rfl⟩
 rw[hnn] at hn⊢
 have HE:=Hm hnn
 clear hnn
 go_wp2_with fail
 go_ret
 refine⟨bA HB1.o _,_,rfl,some ⟨w1.heap.size,0,none⟩,4,rfl,?_,by simp[four],λa ha=>by cases ha;exact HB1.o.size⟩
 have:=row_new w1 [.int .u8 ((n:Int) % 256),.int .u8 ((n:Int) / 256 % 256),.int .u8 ((n:Int) / 65536 % 256),.int .u8 ((n:Int) / 16777216)] 5 (0,0)
 rw[HE.o]
 unfold Bytes
 have e1:=byteV_of (n % 256) (by omega)
 have e2:=byteV_of (n / 256 % 256) (by omega)
 have e3:=byteV_of (n / 65536 % 256) (by omega)
 have e4:=byteV_of (n / 16777216 % 256) (by omega)
 simp only[four,List.map_cons,List.map_nil,e1,e2,e3,e4]
 have e5:((n / 16777216 % 256:Nat):Int)=(n:Int) / 16777216:=by omega
 have d1:((n % 256:Nat):Int)=(n:Int) % 256:=by omega
 have d2:((n / 256 % 256:Nat):Int)=(n:Int) / 256 % 256:=by omega
 have d3:((n / 65536 % 256:Nat):Int)=(n:Int) / 65536 % 256:=by omega
 rw[e5,d1,d2,d3]
 exact this
theorem refPut_any (A:Option Addr) (ca:Nat) (b:List UInt8) (n:Nat) (w:World) (hA:Bytes w A b) (hb:b.length≤10000000) (hn:n < 18446744073709551616) :
  Calls Tryz.prog 24 #[.slice A b.length ca,.int .u64 n] w λe w'=>Bel w w'∧∃ v,e=.returned v∧OwnB w' w.heap.size v (b++leb n):=by
 have HA:=Hm hA
 have HN:=Hm hn
 have HBl:=Hm hb
 clear hA hn
 go_enter Tryz.func24,Tryz.ntmps24
 go_wp2_with (first
  |(at_builtin;refine app0 iByte Tryz.underlying38 rfl (.tmp 7) (.tmp 8) rfl rfl (own_empty w w.heap.size 5 1 w.heap.size rfl (Nat.le_refl _)) (by simp) (A:=A) (m:=b.length) (c:=ca) rfl (HA.o.below (bA (bR w) _)) (by simp) (by have:=HBl.o;omega) ?_)
  |fail)
 intro v1 w1 hb1 ho1
 have HB1:=Hm (bT (bA (bR w) _) hb1)
 have HO1:Hd (OwnB w1 w.heap.size v1 b):=⟨ho1⟩
 clear hb1 ho1
 go_wp2_with fail
 go_loopw [1,5] (λm v wz=>∃ q:Nat,∃ l:List UInt8,m=.int .u64 q∧LebR w b n q l v wz) (λm _ _=>(intOf m).toNat)
 case atStart=>exact⟨n,b,rfl,HN.o,rfl,Nat.le_refl _,HO1.o,HB1.o⟩
 case round =>
  obtain⟨q,l,rfl,hR⟩:=hrel
  have HR:=Hm hR
  have hll:l.length≤10000010:=by
   have:=congrArg List.length hR.all
   have h1:=leb_len10 HN.o
   simp at this
   omega
  clear hR
  have hq:q < 18446744073709551616:=HR.o.lt
  by_cases hs:q < 128
  ·have hz:((q:Int) / 128 == 0)=true:=by rw[beq_iff_eq];omega
   have hz0:(q:Int) / 128=0:=by omega
   have hm:(q:Int) % 128=(q:Int):=by omega
   have HS:=Hm hs
   go_wp2_with (first
    |(at_builtin;refine app iByte Tryz.underlying38 rfl (.tmp 16) (.tmp 19) rfl rfl (HR.o.own.alloc _) (show w.heap.size≤(World.alloc _ _).heap.size by have:=HR.o.below.size;simp;omega) (A:=some ⟨wr.heap.size,0,none⟩) (m:=1) (c:=1) (news:=[.int .u8 (q:Int)]) rfl (row_new _ _ _ _) rfl (by intro u hu;simp at hu;subst hu;rfl) (by omega) ?_)
    |fail)
   intro v3 w3 ho3 hg3
   have hfin:Bel w w3∧OwnB w3 w.heap.size v3 (b++leb n):=by
    refine⟨bG (bA HR.o.below _) hg3 (λk hk=>(HR.o.own.lt k hk).1),?_⟩
    rw[←HR.o.all,leb_small HS.o]
    unfold OwnB
    simpa [byteV_of q (by have:=HS.o;omega)] using ho3
   have HF:=Hm hfin
   obtain⟨A9,c9,rfl,-⟩:=own_row hfin.2
   clear hfin ho3 hg3
   go_wp2_with fail
   go_ret
   exact⟨HF.o.1,_,rfl,HF.o.2⟩
  ·have hz:((q:Int) / 128 == 0)=false:=by rw[beq_eq_false_iff_ne];omega
   have hz0:¬(q:Int) / 128=0:=by omega
   have HS:=Hm hs
   go_wp2_with (first
    |(at_builtin;refine app iByte Tryz.underlying38 rfl (.tmp 21) (.tmp 25) rfl rfl (HR.o.own.alloc _) (show w.heap.size≤(World.alloc _ _).heap.size by have:=HR.o.below.size;simp;omega) (A:=some ⟨wr.heap.size,0,none⟩) (m:=1) (c:=1) (news:=[.int .u8 ((q:Int) % 128+128)]) rfl (row_new _ _ _ _) rfl (by intro u hu;simp at hu;subst hu;rfl) (by omega) ?_)
    |fail)
   intro v3 w3 ho3 hg3
   have hfin:LebR w b n (q / 128) (l++[UInt8.ofNat (q % 128+128)]) v3 w3:=by
    refine⟨by have:=HR.o.lt;omega,?_,by have:=HR.o.le;omega,?_,bG (bA HR.o.below _) hg3 (λk hk=>(HR.o.own.lt k hk).1)⟩
    ·rw[←HR.o.all,leb_great HS.o];simp
    ·unfold OwnB
     have e:=byteV_of (q % 128+128) (by omega)
     rw[List.map_append,List.map_cons,List.map_nil,e,List.length_append]
     rw[show ((q % 128+128:Nat):Int)=(q:Int) % 128+128 by omega]
     simpa using ho3
   have HF:=Hm hfin
   clear hfin ho3 hg3
   go_wp2_with fail
   go_roundw
   case rel=>exact⟨q / 128,_,by simp,HF.o⟩
   case measure=>simp[intOf];omega
theorem refLay_any (k:UInt8) (A:Option Addr) (ca:Nat) (b:List UInt8) (w:World) (hA:Bytes w A b) (hb:b.length≤65536) :
  Calls Tryz.prog 23 #[byteV k,.slice A b.length ca] w λe w'=>Bel w w'∧∃ V,e=.returned V∧NewB w w' V (layF k b):=by
 have HA:=Hm hA
 have HB:=Hm hb
 clear hA hb
 have hr:Bytes (w.alloc (.cells #[.int .u8 111,.int .u8 k.toNat] 5)) (some ⟨w.heap.size,0,none⟩) [111,k]:=by
  have:=row_new w [.int .u8 111,.int .u8 k.toNat] 5 (0,0)
  simpa [Bytes,byteV] using this
 have HR:=Hm hr
 clear hr
 have hwl:IntKind.u64.wrap (b.length:Int)=b.length:=wrap_u64 b.length (by have:=HB.o;omega)
 have HPut:=Hm (λ(wx:World) (h:Bytes wx (some ⟨w.heap.size,0,none⟩) [111,k])=>refPut_any (some ⟨w.heap.size,0,none⟩) 2 [111,k] b.length wx h (by simp) (by have:=HB.o;omega))
 have HChk:=Hm (λ(wx:World) (h:Bel w wx)=>refCheck_any k A ca b wx (HA.o.below h) (by have:=HB.o;omega))
 unfold byteV at HChk⊢
 go_enter Tryz.func23,Tryz.ntmps23
 go_wp2_with fail
 refine(HPut.o _ HR.o).mono ?_
 rintro e w1 ⟨hb1,v1,rfl,ho1⟩
 have HB1:=Hm (bT (bA (bR w) _) hb1)
 have HO1:Hd (OwnB w1 w.heap.size v1 ([111,k]++leb b.length)):=⟨own_base ho1 (by simp)⟩
 clear hb1 ho1
 go_wp2_with fail
 refine(HChk.o _ HB1.o).mono ?_
 rintro e w2 ⟨hb2,V2,rfl,A2,c2,rfl,hB2,hc2,hn2⟩
 have HB2:=Hm (bT HB1.o hb2)
 have HO2:Hd (OwnB w2 w.heap.size v1 ([111,k]++leb b.length)):=⟨own_below HO1.o hb2⟩
 have HY2:=Hm hB2
 have hln:(leb b.length).length≤10:=leb_len10 (by have:=HB.o;omega)
 have HLN:=Hm hln
 have h4:(four (csum (k :: b))).length=4:=rfl
 clear hb2 hB2 hc2 hn2 hln
 go_wp2_with (first
  |(at_builtin;refine app iByte Tryz.underlying38 rfl (.tmp 10) (.tmp 13) rfl rfl HO2.o HB2.o.size (A:=A2) (m:=(four (csum (k :: b))).length) (c:=c2) rfl HY2.o (by simp) byte_one (by have:=HLN.o;rw[h4];simp;omega) ?_)
  |fail)
 intro v3 w3 ho3 hg3
 have HB3:Hd (Bel w w3):=⟨bG HB2.o hg3 (λk hk=>(HO2.o.lt k hk).1)⟩
 have ho3':OwnB w3 w.heap.size v3 ([111,k]++leb b.length++four (csum (k :: b))):=by
  unfold OwnB
  rw[List.map_append,List.length_append]
  exact ho3
 have HO3:=Hm ho3'
 clear ho3 hg3 ho3'
 go_wp2_with (first
  |(at_builtin;refine app iByte Tryz.underlying38 rfl (.tmp 14) (.tmp 15) rfl rfl HO3.o HB3.o.size (A:=A) (m:=b.length) (c:=ca) rfl (HA.o.below HB3.o) (by simp) byte_one (by have:=HLN.o;have:=HB.o;rw[List.length_append,h4];simp;omega) ?_)
  |fail)
 intro v4 w4 ho4 hg4
 have HB4:Hd (Bel w w4):=⟨bG HB3.o hg4 (λk hk=>(HO3.o.lt k hk).1)⟩
 have ho4':OwnB w4 w.heap.size v4 (layF k b):=by
  unfold OwnB layF
  simpa [h4,Nat.add_comm,Nat.add_left_comm,Nat.add_assoc] using ho4
 have HF:=Hm (NewB.ofOwn ho4')
 obtain⟨A9,c9,rfl,-⟩:=own_row ho4'
 clear ho4 hg4 ho4'
 go_wp2_with fail
 go_ret
 exact⟨HB4.o,_,rfl,HF.o⟩
end Go.Proofs.YtjkgligohegaeaaGreatDoor
