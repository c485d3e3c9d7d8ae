/- Lemmas of the row. -/
import Derived.WideKeyEntry
import Derived.Test.YtjkgligohegaeaaGreatDoorN24
set_option linter.all false
set_option maxRecDepth 20000
set_option maxHeartbeats 12800000
namespace Go.Proofs.YtjkgligohegaeaaGreatDoor
open Go.RowKit
def LetPost (w:World) (f:Func) (regs job lease:Nat) (l:List UInt8) (e:Ending) (w':World):Prop:=Bel w w'∧∃ V,e=.returned V∧NewB w w' V (letterOf job lease (nvCode f regs l) (nvCert f regs))
theorem letter_any (fs:List Func) (hsm:∀ f∈fs,Small f) (h1:1≤fs.length) (h5:fs.length≤5) (regs:Nat) (h3:3≤regs) (h8:regs≤8) (job lease:Nat) (hj:job < 256) (hle:lease < 256) (ch:List UInt8) (A:Option Addr) (ca:Nat) (hca:ch.length≤ca) (hcm:ca≤maxLen)
  (f:Func) (hf:fs[job % fs.length]?=some f) (ok:Nat→Prop) (lv:Value) (w:World) (hl:Kd.SK kFunc w ok fs lv) (hA:Bytes w A ch) :
  Calls Tryz.prog 16 #[lv,.int .i64 regs,.agg #[.int .u8 0,.int .u8 0,.int .u8 job,.int .u8 lease,.bool false,.slice none 0 0,.slice none 0 0,.slice A ch.length ca,.slice none 0 0,.int .i64 0]] w (LetPost w f regs (job % fs.length) lease (ch.take 200)):=by
 obtain⟨hji,hfe⟩:=List.getElem?_eq_some_iff.1 hf
 obtain⟨bf,of_,cf,vf,ef,-,hskf,-,-,z0,z1,z2⟩:=sk_func hl _ hji
 obtain⟨A0,c0,rfl,-,-⟩:=sk_form hl
 simp only[Value.slice.injEq] at ef
 obtain⟨rfl,-,rfl⟩:=ef
 rw[hfe] at hskf z0 z1
 have hsf:Small f:=hsm f (by rw[←hfe];exact List.getElem_mem hji)
 obtain⟨Af,cf1,rfl,-,-⟩:=sk_form hskf
 have HS:=Hm hsf
 have HSk:=Hm hskf
 have HA:=Hm hA
 obtain⟨mn,hmn⟩:∃ mn,mn=(ch.take 200).length:=⟨_,rfl⟩
 have hmn2:mn=min 200 ch.length:=by rw[hmn,List.length_take]
 have hmx:min (ch.length:Int) 200=(mn:Int):=by omega
 have hmc:mn≤ca:=by omega
 have hn0:¬(fs.length:Int)=0:=by omega
 have hn0':¬fs.length=0:=by omega
 obtain⟨j,hjj⟩:∃ j,j=job % fs.length:=⟨_,rfl⟩
 have t0:(job:Int).tmod (fs.length:Int)=(j:Int):=by rw[hjj];exact(Int.natCast_emod _ _).symm
 have t1:(job:Int) % (fs.length:Int)=(j:Int):=by rw[hjj];exact(Int.natCast_emod _ _).symm
 have tw:IntKind.i64.wrap (j:Int)=(j:Int):=Go.IntWalk.i64_in _ (by omega)
 have hca':=hca
 have hcm':ch.length≤9223372036854775807:=by unfold maxLen at hcm;omega
 have hm200:(ch.take 200).length≤ca:=by rw[List.length_take];omega
 have HNv:=Hm (λ(wx:World) (hb:Bel w wx)=>naive_any f hsf regs h3 h8 (ch.take 200) (by rw[List.length_take];omega) A ca hm200 ok _ wx (sk_bel hskf hb) ((Bytes.take hA 200).below hb))
 have HPt:=Hm (λ(wx:World) (okx:Nat→Prop) (v u:Value) hv hu=>putTell_any j lease (by omega) (by omega) (nvCode f regs (ch.take 200)) (nvCode_ok hsf h3 h8 _).1 (nvCode_ok hsf h3 h8 _).2 (nvCert f regs) (by have:=hsf.b7;simp[nvCert];omega) (nvPairs_fine hsf h3 h8) (nvTell_len hsf h3 h8 j lease (by omega) (by omega) _) okx v u wx hv hu)
 rw[←hmn] at HNv
 rw[←hjj] at hji z0 z1 z2⊢
 have hbf:=World.block_lt_of_cell? w _ z0
 dsimp only at hbf
 have hPl:List.length (nvBlocks regs f.blocks (ch.take 200))=f.blocks.length:=nvBlocks_len' _ _ _
 unfold LetPost letterOf
 clear hmn hmn2 hm200 hl hf hfe hskf hsf hA hjj hsm
 generalize layF 3 (tellBody j lease (nvCode f regs (ch.take 200)) (nvCert f regs))=LT at *
 unfold nvCode at HPt
 dsimp only at HPt
 go_enter Tryz.func16,Tryz.ntmps16
 go_wp2_with fail
 refine rgt (.rd 0 (.rd 1 (.rd 2 (.rd 4 (.rd 3 (.rd 5 (.rd 6 (.rd 7 (.rd 8 (.br 9 [] (.rd 10 (.rd 11 (.rd 12 (.hv 13 [10,11,12] (.hv 14 [12] (.rd 15 (.nil))))))) (.hv 13 [0,1,2,4,3,5,6,7,8] (.hv 9 [] (.rd 10 (.rd 11 (.rd 12 (.hv 14 [12] (.rd 15 (.nil)))))))))))))))))) (n:=127) rfl ?_
 iterate 9 (refine tree_rd rfl (λK hK=>?_);go_simp;refine hK _ ?_;clear hK K)
 obtain⟨W,hW⟩:∃ W,W=(w.alloc (.cells #[.int .u8 0,.int .u8 0,.int .u8 job,.int .u8 lease,.bool false,.slice none 0 0,.slice none 0 0,.slice A ch.length ca,.slice none 0 0,.int .i64 0] 40)).alloc (.cells #[.int .i64 f.params,.int .i64 f.vregs,.slice Af f.blocks.length cf1] 99):=⟨_,rfl⟩
 have HWb:Hd (Bel w W∧W.heap.size=w.heap.size+2∧W.heap[w.heap.size]?=some (.cells ([.int .u8 0,.int .u8 0,.int .u8 job,.int .u8 lease,.bool false,.slice none 0 0,.slice none 0 0,.slice A ch.length ca,.slice none 0 0,.int .i64 0]:List Value).toArray 40 (0,0))∧W.heap[w.heap.size+1]?=some (.cells ([.int .i64 f.params,.int .i64 f.vregs,.slice Af f.blocks.length cf1]:List Value).toArray 99 (0,0))):=⟨by
  rw[hW];exact⟨bA (bA (bR w) _) _,by simp,bHeap (bA (bR _) _) (hnew rfl),hnew (by simp)⟩⟩
 rw[←hW]
 clear hW z0 z1 z2 hbf
 obtain⟨fp,hfp⟩:∃ fp,fp=f.params:=⟨_,rfl⟩
 obtain⟨fv,hfv⟩:∃ fv,fv=f.vregs:=⟨_,rfl⟩
 rw[←hfp,←hfv] at HNv HPt
 rw[←hfp,←hfv]
 unfold NaivePost at HNv
 rw[←hfp,←hfv] at HNv
 have hWz:=HWb.o.2.1
 have s7:W.cell? ⟨w.heap.size,7,none⟩=some (.slice A ch.length ca):=cell_at HWb.o.2.2.1
 have b0:W.cell? ⟨w.heap.size+1,0,none⟩=some (.int .i64 fp):=by rw[hfp];exact cell_at HWb.o.2.2.2
 have b1:W.cell? ⟨w.heap.size+1,1,none⟩=some (.int .i64 fv):=by rw[hfv];exact cell_at HWb.o.2.2.2
 have b2:W.cell? ⟨w.heap.size+1,2,none⟩=some (.slice Af f.blocks.length cf1):=cell_at HWb.o.2.2.2
 clear hfp hfv
 refine tree_br rfl ?_ ?_
 ·go_wp2_with fail
  refine(HNv.o W.drew (bD HWb.o.1)).mono ?_
  rintro e X1 ⟨hb1,v,u,rfl,hsv,hsu⟩
  have HX:=Hm (And.intro (bU hb1) (And.intro hsv hsu))
  obtain⟨Av,cv,rfl,-,-⟩:=sk_form hsv
  obtain⟨Au,cu,rfl,-,-⟩:=sk_form hsu
  clear hb1 hsv hsu
  go_wp2_with fail
  refine⟨?_,?_⟩
  ·exact trivial
  iterate 3 (refine tree_rd rfl (λK hK=>?_);go_simp;refine hK _ ?_;clear hK K)
  refine tree_hv rfl ?_
  go_wp2_with fail
  refine⟨?_,?_⟩
  ·simp only[Again,slotOf]
   go_simp
  refine tree_hv rfl ?_
  go_wp2_with fail
  refine⟨?_,?_⟩
  ·simp only[Again,slotOf]
   go_simp
  iterate 1 (refine tree_rd rfl (λK hK=>?_);go_simp;refine hK _ ?_;clear hK K)
  unfold TreeL
  have HBX0:Bel W (X1.alloc (.cells #[.int .i64 fp,.int .i64 regs,.int .i64 fv,.slice Av f.blocks.length cv] 59)):=bA HX.o.1 _
  have hc0:(X1.alloc (.cells #[.int .i64 fp,.int .i64 regs,.int .i64 fv,.slice Av f.blocks.length cv] 59)).heap[X1.heap.size]?=some (.cells ([.int .i64 fp,.int .i64 regs,.int .i64 fv,.slice Av f.blocks.length cv]:List Value).toArray 59 (0,0)):=hnew rfl
  have hsv0:=sk_bel HX.o.2.1 (bA (bR X1) (.cells #[.int .i64 fp,.int .i64 regs,.int .i64 fv,.slice Av f.blocks.length cv] 59))
  have hsu0:=sk_bel HX.o.2.2 (bA (bR X1) (.cells #[.int .i64 fp,.int .i64 regs,.int .i64 fv,.slice Av f.blocks.length cv] 59))
  rw[hPl] at hsv0
  obtain⟨cc,hcc⟩:∃ cc,cc=X1.heap.size:=⟨_,rfl⟩
  rw[←hcc] at hc0⊢
  clear hcc
  generalize X1.alloc (.cells #[.int .i64 fp,.int .i64 regs,.int .i64 fv,.slice Av f.blocks.length cv] 59)=X at *
  have HBX:=Hm HBX0
  have HC:=Hm hc0
  have HSv:=Hm (And.intro hsv0 hsu0)
  clear HBX0 hc0 hsv0 hsu0 s7 b0 b1 b2 HX HNv
  have hcX:X.heap[cc]?=some (.cells ([.int .i64 fp,.int .i64 regs,.int .i64 fv,.slice Av f.blocks.length cv]:List Value).toArray 59 (0,0)):=HC.o
  obtain⟨r0,r1,r2,r3⟩:=cC4 hcX
  have s3:X.cell? ⟨w.heap.size,3,none⟩=some (.int .u8 lease):=bCell HBX.o (cell_at HWb.o.2.2.1)
  have s8:X.cell? ⟨w.heap.size,8,none⟩=some (.slice none 0 0):=bCell HBX.o (cell_at HWb.o.2.2.1)
  have hsX:=World.block_lt_of_cell? _ _ s3
  have hcXl:=hlt hcX
  have tl1:IntKind.u64.wrap (lease:Int)=lease:=wrap_u64 lease (by omega)
  clear hcX
  go_wp2_with fail
  refine wp_loop_rounds 1 ?_
  rw[rounds_succ]
  go_wp2_with fail
  refine(HPt.o _ _ _ _ HSv.o.1 HSv.o.2).mono ?_
  rintro e X9 ⟨hb9,V9,rfl,A9,c9,rfl,hB9,hc9,hn9⟩
  have HF:Hd (Bel w X9∧NewB w X9 (.slice A9 LT.length c9) LT):=⟨bT (bT HWb.o.1 HBX.o) hb9,A9,c9,rfl,hB9,hc9,λa ha=>by have:=hn9 a ha;have:=HBX.o.size;omega⟩
  clear hb9 hB9 hc9 hn9
  go_wp2_with fail
  go_ret
  exact⟨HF.o.1,_,rfl,HF.o.2⟩
 ·refine tree_hv rfl ?_
  go_wp2_with fail
  refine⟨?_,?_⟩
  ·simp only[Again,slotOf]
   go_simp
  refine tree_hv rfl ?_
  go_wp2_with fail
  refine(HNv.o (W.alloc (.cells #[.int .i64 0,.int .i64 0,.int .i64 0,.slice none 0 0] 59)).drew (bD (bA HWb.o.1 _))).mono ?_
  rintro e X1 ⟨hb1,v,u,rfl,hsv,hsu⟩
  have HX:=Hm (And.intro (bU hb1) (And.intro hsv hsu))
  obtain⟨Av,cv,rfl,-,-⟩:=sk_form hsv
  obtain⟨Au,cu,rfl,-,-⟩:=sk_form hsu
  have hcz:X1.heap[w.heap.size+2]?=some (.cells ([.int .i64 0,.int .i64 0,.int .i64 0,.slice none 0 0]:List Value).toArray 59 (0,0)):=bHeap (bU hb1) (hnew hWz.symm)
  have HCz:=Hm hcz
  obtain⟨q0,q1,q2,q3⟩:=cC4 hcz
  obtain⟨g0,g1,g2,g3⟩:=fF4 hcz
  have hcl:=hlt hcz
  clear hcz
  clear hb1 hsv hsu
  go_wp2_with fail
  refine⟨?_,?_⟩
  ·exact trivial
  iterate 3 (refine tree_rd rfl (λK hK=>?_);go_simp;refine hK _ ?_;clear hK K)
  refine tree_hv rfl ?_
  go_wp2_with fail
  refine⟨?_,?_⟩
  ·simp only[Again,slotOf]
   go_simp
  iterate 1 (refine tree_rd rfl (λK hK=>?_);go_simp;refine hK _ ?_;clear hK K)
  unfold TreeL
  have hO:Only X1 ((((X1.setCell ⟨w.heap.size+2,0,none⟩ (.int .i64 fp)).setCell ⟨w.heap.size+2,1,none⟩ (.int .i64 regs)).setCell ⟨w.heap.size+2,2,none⟩ (.int .i64 fv)).setCell ⟨w.heap.size+2,3,none⟩ (.slice Av f.blocks.length cv)) (λb=>b=w.heap.size+2):=oC (oC (oC (oC (F:=λb=>b=w.heap.size+2) (Only.refl X1 _) rfl 0 (.int .i64 fp)) rfl 1 (.int .i64 regs)) rfl 2 (.int .i64 fv)) rfl 3 (.slice Av f.blocks.length cv)
  have HBX0:Bel W ((((X1.setCell ⟨w.heap.size+2,0,none⟩ (.int .i64 fp)).setCell ⟨w.heap.size+2,1,none⟩ (.int .i64 regs)).setCell ⟨w.heap.size+2,2,none⟩ (.int .i64 fv)).setCell ⟨w.heap.size+2,3,none⟩ (.slice Av f.blocks.length cv)):=bO (bT (bA (bR W) _) HX.o.1) hO (λb e=>by omega)
  have hc0:=set_at (set_at (set_at (set_at HCz.o 0 (.int .i64 fp)) 1 (.int .i64 regs)) 2 (.int .i64 fv)) 3 (.slice Av f.blocks.length cv)
  have hWa:(W.alloc (.cells #[.int .i64 0,.int .i64 0,.int .i64 0,.slice none 0 0] 59)).drew.heap.size=w.heap.size+3:=by simp;omega
  have hsv0:=(HX.o.2.1.stay (hO.stays (λb hb e=>by omega))).stay (Stays.weaken (ok':=λb=>W.heap.size≤b) (λb hb=>by omega))
  have hsu0:=(HX.o.2.2.stay (hO.stays (λb hb e=>by omega))).stay (Stays.weaken (ok':=λb=>W.heap.size≤b) (λb hb=>by omega))
  rw[hPl] at hsv0
  generalize (((X1.setCell ⟨w.heap.size+2,0,none⟩ (.int .i64 fp)).setCell ⟨w.heap.size+2,1,none⟩ (.int .i64 regs)).setCell ⟨w.heap.size+2,2,none⟩ (.int .i64 fv)).setCell ⟨w.heap.size+2,3,none⟩ (.slice Av f.blocks.length cv)=X at *
  obtain⟨cc,hcc⟩:∃ cc,cc=w.heap.size+2:=⟨_,rfl⟩
  rw[←hcc] at hc0⊢
  clear hcc
  have HBX:=Hm HBX0
  have HC:Hd (X.heap[cc]?=some (.cells ([.int .i64 fp,.int .i64 regs,.int .i64 fv,.slice Av f.blocks.length cv]:List Value).toArray 59 (0,0))):=⟨hc0⟩
  have HSv:=Hm (And.intro hsv0 hsu0)
  clear HBX0 hc0 hsv0 hsu0 hO hWa s7 b0 b1 b2 HX HNv q0 q1 q2 q3 g0 g1 g2 g3 hcl HCz
  have hcX:X.heap[cc]?=some (.cells ([.int .i64 fp,.int .i64 regs,.int .i64 fv,.slice Av f.blocks.length cv]:List Value).toArray 59 (0,0)):=HC.o
  obtain⟨r0,r1,r2,r3⟩:=cC4 hcX
  have s3:X.cell? ⟨w.heap.size,3,none⟩=some (.int .u8 lease):=bCell HBX.o (cell_at HWb.o.2.2.1)
  have s8:X.cell? ⟨w.heap.size,8,none⟩=some (.slice none 0 0):=bCell HBX.o (cell_at HWb.o.2.2.1)
  have hsX:=World.block_lt_of_cell? _ _ s3
  have hcXl:=hlt hcX
  have tl1:IntKind.u64.wrap (lease:Int)=lease:=wrap_u64 lease (by omega)
  clear hcX
  go_wp2_with fail
  refine wp_loop_rounds 1 ?_
  rw[rounds_succ]
  go_wp2_with fail
  refine(HPt.o _ _ _ _ HSv.o.1 HSv.o.2).mono ?_
  rintro e X9 ⟨hb9,V9,rfl,A9,c9,rfl,hB9,hc9,hn9⟩
  have HF:Hd (Bel w X9∧NewB w X9 (.slice A9 LT.length c9) LT):=⟨bT (bT HWb.o.1 HBX.o) hb9,A9,c9,rfl,hB9,hc9,λa ha=>by have:=hn9 a ha;have:=HBX.o.size;omega⟩
  clear hb9 hB9 hc9 hn9
  go_wp2_with fail
  go_ret
  exact⟨HF.o.1,_,rfl,HF.o.2⟩
def setB (w:World) (b:Nat) (o:Obj):World:={ w with heap:=w.heap.setIfInBounds b o }
theorem setB_only {w w1:World} {F:Nat→Prop} (h:Only w w1 F) (b:Nat) (o:Obj) (hb:w.heap.size≤b∨F b):Only w (setB w1 b o) F:=by
 refine⟨h.os,h.tape,h.output,by simpa [setB] using h.size,λc hc hF=>?_⟩
 rw[←h.block c hc hF]
 have:b≠c:=λe=>by rcases hb with hb|hb;omega;exact hF (e ▸ hb)
 simp[setB,Array.getElem?_setIfInBounds,this]
theorem setB_at {w:World} {b:Nat} {o o':Obj} (h:w.heap[b]?=some o'):(setB w b o).heap[b]?=some o:=by
 have:=hlt h
 simp[setB,Array.getElem?_setIfInBounds,this]
theorem setB_other {w:World} {b c:Nat} {o:Obj} (h:b≠c):(setB w b o).heap[c]?=w.heap[c]?:=by simp[setB,Array.getElem?_setIfInBounds,h]
theorem entry_new (w:World) (b:Nat) (hb:w.heap[b]?=some (.map #[] 0)):(Instr.mapEntry 350 (.map (some b)) (.int .i64 0)).run Tryz.prog w=.ok (.tuple #[.bool false,.int .i64 0]) (setB w b (.map #[⟨.int .i64 0,.bool false,0⟩] 1)):=by
 have ht:Tryz.prog.underlying 350=some (.map 3 4):=by kernel_rfl
 have hk:∀ w:World,(Instr.checkKey false 10000 3 (.int .i64 0)).run Tryz.prog w=.ok () w:=λw=>by kernel_rfl
 have hf:∀ w:World,(Instr.findKey 3 (.int .i64 0) []).run Tryz.prog w=.ok none w:=λw=>by kernel_rfl
 have hz:∀ w:World,(zeroValue 4).run Tryz.prog w=.ok (.bool false) w:=λw=>by kernel_rfl
 simp[Instr.mapEntry,run_underlying ht,MapKept.run_getObj_map hb,hk,hf,hz,MapKept.run_setObj_map _ hb,Result.andThen,setB,goInt]
theorem entry_store (w:World) (b:Nat) (hb:w.heap[b]?=some (.map #[⟨.int .i64 0,.bool false,0⟩] 1)):(Instr.entryStore 350 (.map (some b)) (.int .i64 0) (.bool true)).run Tryz.prog w=.ok () (setB w b (.map #[⟨.int .i64 0,.bool true,0⟩] 1)):=by
 simp[Instr.entryStore,MapKept.run_getObj_map hb,asInt,asIntOf,MapKept.run_setObj_map _ hb,Result.andThen,setB]
theorem look_none (w:World):(Instr.lookup 350 (.map none) (.int .i64 0) false).run Tryz.prog w=.ok (.bool false) w:=by kernel_rfl
theorem map_nil (m:Option Nat) (w:World):(binOp .eql 350 (.map m) (.map none)).run Tryz.prog w=.ok (.bool m.isNone) w:=by
 cases m<;>kernel_rfl
structure QueAt (w:World) (p base:Nat) (v:Value) (m:Nat):Prop where
 head:w.heap[p]?=some (.cells #[v,.map (some m)] 352 (0,0))
 own:OwnI w base v [0]
 map_:w.heap[m]?=some (.map #[⟨.int .i64 0,.bool true,0⟩] 1)
 mb:base≤m
theorem que_put (p:Nat) (w:World) (hp:w.heap[p]?=some (.cells #[.slice none 0 0,.map none] 352 (0,0))) :
  Calls Tryz.prog 222 #[.pointer (some ⟨p,0,none⟩),.int .i64 0] w λe w'=>e=.returned (.bool true)∧Only w w' (λb=>b=p)∧∃ v m,QueAt w' p w.heap.size v m:=by
 have hpz:=hlt hp
 have c0:w.cell? ⟨p,0,none⟩=some (.slice none 0 0):=hcell hp 0
 have c1:w.cell? ⟨p,1,none⟩=some (.map none):=hcell hp 1
 obtain⟨f0,f1⟩:=fF2 hp
 have HP:=Hm hp
 have hl:=look_none
 have hmm:=@run_makeMap Tryz.prog
 have he:=map_nil
 clear hp
 go_enter Tryz.func222,Tryz.ntmps222
 go_wp2_with fail
 obtain⟨X,hX⟩:∃ X,X=(w.setCell ⟨p,1,none⟩ (.map (some w.heap.size))).alloc (.map #[] 0):=⟨_,rfl⟩
 obtain⟨m,hm⟩:∃ m,m=w.heap.size:=⟨_,rfl⟩
 rw[←hX,←hm]
 have hp1:X.heap[p]?=some (.cells #[.slice none 0 0,.map (some m)] 352 (0,0)):=by
  rw[hX,hm];exact hold (set_at (cs:=[.slice none 0 0,.map none]) HP.o 1 _) (by simp;omega)
 have hm1:X.heap[m]?=some (.map #[] 0):=by rw[hX];exact hnew (by simp[hm])
 have O1:Hd (Only w X (λb=>b=p)):=⟨by rw[hX];exact oA (oC (F:=λb=>b=p) (Only.refl w _) rfl _ _) _⟩
 have HX:=Hm (And.intro hp1 hm1)
 have HM:=Hm hm
 have d0:=hcell hp1 0
 have d1:=hcell hp1 1
 have g0:=hfree hp1 0
 have hpm:¬m=p:=by omega
 have hmz:=hlt hm1
 have hpz1:=hlt hp1
 simp at d0 d1
 clear hX hp1 hm1 hm c0 c1 f0 f1 hl he hmm
 refine rgn [.rd 0,.rd 1,.rd 2,.rd 3,.rd 4,.rd 5,.rd 6,.rd 7,.rd 8,.rd 9,.rd 10,.hv 11 [0,1,2,3,4,5,6,7,8,9],.hv 12 [0,1,2,3,4,5],.rd 13,.rd 14,.hv 15 [5],.hv 16 [],.rd 17,.hv 18 []] (n:=37) rfl ?_
 iterate 11 (refine line_rd rfl (λK hK=>?_);go_simp;refine hK _ ?_;clear hK K)
 refine line_hv rfl ?_
 go_wp2_with fail
 refine⟨?_,?_⟩
 ·simp only[Again,slotOf]
  go_simp
 refine line_hv rfl ?_
 refine app0 iInt Tryz.underlying29 rfl (.tmp 29) (.tmp 31) rfl rfl (own_none _ m 3 1 0 rfl) (show m≤(X.drew.alloc _).heap.size by simp;omega) (A:=some ⟨X.heap.size,0,none⟩) (m:=1) (c:=1) rfl (row_new X.drew [.int .i64 0] 3 (0,0)) rfl (by omega) ?_
 intro v2 w2 hb2 ho2
 obtain⟨g2,c2,e2,hg2⟩:=own_form ho2 (by omega)
 subst e2
 have HB2:=Hm (bU (bUA hb2))
 have hp2:=bHeap HB2.o HX.o.1
 have hm2:=bHeap HB2.o HX.o.2
 have HO2:=Hm (own_base ho2 (Nat.le_of_eq HM.o.symm))
 have HX2:=Hm (And.intro hp2 hm2)
 have e0:=hcell hp2 0
 have e1:=hcell hp2 1
 have g2':=hfree hp2 0
 have hz2:=HB2.o.size
 have hpz2:=hlt hp2
 simp at e0 e1
 clear hb2 ho2 hp2 hm2 d0 d1 g0 hpz1
 go_wp2_with fail
 refine⟨?_,?_⟩
 ·simp only[Again,slotOf]
  go_simp
 iterate 2 (refine line_rd rfl (λK hK=>?_);go_simp;refine hK _ ?_;clear hK K)
 refine line_hv rfl ?_
 go_wp2_with fail
 refine⟨?_,?_⟩
 ·simp only[Again,slotOf]
  go_simp
 obtain⟨Y,hY⟩:∃ Y,Y=w2.setCell ⟨p,0,none⟩ (.slice (some ⟨g2,0,none⟩) 1 c2):=⟨_,rfl⟩
 rw[←hY]
 have HY:Hd (Y.heap[p]?=some (.cells #[.slice (some ⟨g2,0,none⟩) 1 c2,.map (some m)] 352 (0,0))∧Y.heap[m]?=some (.map #[] 0)∧OwnI Y w.heap.size (.slice (some ⟨g2,0,none⟩) 1 c2) [0]∧Only w Y (λb=>b=p)):=⟨by
  rw[hY]
  exact⟨set_at (cs:=[.slice none 0 0,.map (some m)]) HX2.o.1 0 _,hset HX2.o.2 hpm,own_only HO2.o (oC (Only.refl _ (λb=>b=p)) rfl _ _) (λb hb e=>by cases hb;have e2:g2=p:=e;have:=HM.o;omega),oC (F:=λb=>b=p) (oB O1.o HB2.o) rfl _ _⟩⟩
 have hme:=entry_new Y m HY.o.2.1
 clear hY e0 e1 g2' HX2 HO2
 refine line_hv rfl ?_
 go_wp2_with fail
 refine⟨?_,?_⟩
 ·exact trivial
 iterate 1 (refine line_rd rfl (λK hK=>?_);go_simp;refine hK _ ?_;clear hK K)
 obtain⟨Z,hZ⟩:∃ Z,Z=setB Y m (.map #[⟨.int .i64 0,.bool false,0⟩] 1):=⟨_,rfl⟩
 rw[←hZ]
 have hgm:g2≠m:=λe=>by
  subst e
  obtain⟨g,c,e,-,-,hc⟩:=ints_at HY.o.2.2.1 (by simp)
  cases e
  have:=hc 0 (by simp)
  unfold World.cell? at this
  rw[HY.o.2.1] at this
  cases this
 have HZ:Hd (Z.heap[p]?=some (.cells #[.slice (some ⟨g2,0,none⟩) 1 c2,.map (some m)] 352 (0,0))∧Z.heap[m]?=some (.map #[⟨.int .i64 0,.bool false,0⟩] 1)∧OwnI Z w.heap.size (.slice (some ⟨g2,0,none⟩) 1 c2) [0]∧Only w Z (λb=>b=p)):=⟨by
  rw[hZ]
  exact⟨(setB_other hpm).trans HY.o.1,setB_at HY.o.2.1,own_only HY.o.2.2.1 (setB_only (Only.refl _ (λb=>b=m)) m _ (.inr rfl)) (λb hb e=>by cases hb;exact hgm e),setB_only HY.o.2.2.2 m _ (.inl (by have:=HM.o;omega))⟩⟩
 have hes:=entry_store Z m HZ.o.2.1
 clear hZ hme HY
 refine line_hv rfl ?_
 go_wp2_with fail
 refine⟨?_,?_⟩
 ·exact trivial
 unfold Line
 go_wp2_with fail
 go_ret
 refine⟨rfl,setB_only HZ.o.2.2.2 m _ (.inl (by have:=HM.o;omega)),_,m,⟨(setB_other hpm).trans HZ.o.1,own_only HZ.o.2.2.1 (setB_only (Only.refl _ (λb=>b=m)) m _ (.inr rfl)) (λb hb e=>by cases hb;exact hgm e),setB_at HZ.o.2.1,Nat.le_of_eq HM.o.symm⟩⟩
theorem que_len (p:Nat) (A:Option Addr) (n c:Nat) (w:World) (c0:w.cell? ⟨p,0,none⟩=some (.slice A n c)) :
  Calls Tryz.prog 223 #[.pointer (some ⟨p,0,none⟩)] w λe w'=>e=.returned (.int .i64 n)∧w=w':=by
 have hpz:=World.block_lt_of_cell? w _ c0
 dsimp only at hpz
 go_enter Tryz.func223,Tryz.ntmps223
 go_wp2_with fail
 go_ret
 exact⟨rfl,rfl⟩
theorem run_tailI (b o c:Nat) (w:World):∃ V,(∃ A,V=.slice A 0 (c-1))∧(1≤c→∀ w,(Instr.sliceAt 29 (.slice (some ⟨b,o,none⟩) 1 c) (some (.int .i64 1)) none none).run Tryz.prog w=.ok V w):=by
 have hu:Tryz.prog.underlying 29=some (.slice 3):=by kernel_rfl
 have hs:∀ w,(sizeOf 3).run Tryz.prog w=.ok 1 w:=Tryz.sizeOf3
 by_cases h:c=1
 ·exact⟨.slice (some ⟨b,o,none⟩) 0 (c-1),⟨_,rfl⟩,λh1 w=>by simp[Instr.sliceAt,go_sem,run_underlying hu,hs,h]⟩
 ·exact⟨.slice (some ⟨b,o+1,none⟩) 0 (c-1),⟨_,rfl⟩,λh1 w=>by simp[Instr.sliceAt,go_sem,run_underlying hu,hs,h]⟩
theorem del_one (w:World) (b:Nat) (hb:w.heap[b]?=some (.map #[⟨.int .i64 0,.bool true,0⟩] 1)):(Builtin.delete_ #[350,3] 0 #[.map (some b),.int .i64 0]).run Tryz.prog w=.ok (.tuple #[]) (setB w b (.map #[] 1)):=by
 have ht:Tryz.prog.underlying 350=some (.map 3 4):=by kernel_rfl
 have hk:∀ w:World,(Instr.checkKey false 10000 3 (.int .i64 0)).run Tryz.prog w=.ok () w:=λw=>by kernel_rfl
 have hf:∀ w:World,(Instr.findKey 3 (.int .i64 0) [⟨.int .i64 0,.bool true,0⟩]).run Tryz.prog w=.ok (some (0,.bool true)) w:=λw=>by kernel_rfl
 simp[Builtin.delete_,run_underlying ht,MapKept.run_getObj_map hb,hk,hf,MapKept.run_setObj_map _ hb,Result.andThen,setB]
theorem que_take (p base:Nat) (v:Value) (m:Nat) (hpm:p≠m) (w:World) (h:QueAt w p base v m) :
  Calls Tryz.prog 224 #[.pointer (some ⟨p,0,none⟩)] w λe w'=>e=.returned (.tuple #[.int .i64 0,.bool true])∧Only w w' (λb=>b=p∨b=m)∧∃ A c,w'.cell? ⟨p,0,none⟩=some (.slice A 0 c):=by
 have H:=Hm h
 obtain⟨g,c,rfl,hg,hgz,hc⟩:=ints_at h.own (by simp)
 have hi:=hc 0 (by simp)
 simp only[List.getElem_cons_zero] at hi
 have hcc:1≤c:=by
  obtain⟨A,c',e,-,-,-,hn,-⟩:=own_row h.own
  cases e
  exact hn
 have c0:w.cell? ⟨p,0,none⟩=some (.slice (some ⟨g,0,none⟩) 1 c):=hcell h.head 0
 have c1:w.cell? ⟨p,1,none⟩=some (.map (some m)):=hcell h.head 1
 have f0:=hfree h.head 0
 have hpz:=hlt h.head
 obtain⟨V,⟨A',hV⟩,hr⟩:=run_tailI g 0 c w
 have hr:=hr hcc
 subst hV
 have hd:=del_one (w.setCell ⟨p,0,none⟩ (.slice A' 0 (c-1))) m (hset h.map_ hpm.symm)
 clear h hc
 go_enter Tryz.func224,Tryz.ntmps224
 go_wp2_with fail
 go_ret2
 refine⟨rfl,setB_only (oC (F:=λb=>b=p∨b=m) (Only.refl w _) (.inl rfl) _ _) m _ (.inr (.inr rfl)),A',c-1,?_⟩
 rw[cell_of_heap (w:=w.setCell ⟨p,0,none⟩ (.slice A' 0 (c-1))) (a:=⟨p,0,none⟩) (setB_other hpm.symm)]
 exact hcell (set_at (cs:=[.slice (some ⟨g,0,none⟩) 1 c,.map (some m)]) H.o.head 0 _) 0
def retE:End:=⟨3,1,0,0⟩
theorem f194_any (w:World) (x:Value):Calls Tryz.prog 194 #[x] w λe w'=>e=.returned (.agg #[.slice none 0 0])∧Bel w w':=by
 go_enter Tryz.func194,Tryz.ntmps194
 go_wp2_with fail
 refine bodyPost_ret (v:=.agg #[.slice none 0 0]) (by simp[results,Tryz.results194,go_sem]) rfl ⟨rfl,bA (bR w) _⟩
theorem block_cells {w:World} {ok:Nat→Prop} {l:List Block} {v:Value} (h:Kd.SK kBlock w ok l v) (i:Nat) (hi:i < l.length) (x:Block) (hx:l[i]=x) :
  ∃ b off c u,v=.slice (some ⟨b,off,none⟩) l.length c∧ok b∧b < w.heap.size∧Kd.SK kIns w ok x.ins u∧w.cell? ⟨b,off+i*5,none⟩=some u∧w.cell? ⟨b,off+i*5+1,none⟩=some (.int .u8 x.fin.kind)∧w.cell? ⟨b,off+i*5+2,none⟩=some (.int .i64 x.fin.a)∧w.cell? ⟨b,off+i*5+3,none⟩=some (.int .i64 x.fin.to_)∧w.cell? ⟨b,off+i*5+4,none⟩=some (.int .i64 x.fin.else_):=by
 obtain⟨b,off,c,cs,rfl,-,ho,hb,hk,hc⟩:=h.at_ i hi
 rw[hx] at hk
 obtain⟨-,u,rfl,hu⟩:=kBlock_open hk
 exact⟨b,off,c,u,rfl,ho,hb,hu,hc 0 (by decide),hc 1 (by decide),hc 2 (by decide),hc 3 (by decide),hc 4 (by decide)⟩
theorem f193_one (l:List Ins) (q:Nat) (ok:Nat→Prop) (V:Value) (w:World) (hq:w.heap[q]?=some (.cells #[V] 57 (0,0))) (hv:Kd.SK kBlock w ok [⟨l,retE⟩] V) :
  Calls Tryz.prog 193 #[.int .i64 0,.pointer (some ⟨q,0,none⟩)] w λe w'=>Bel w w'∧∃ A c,e=.returned (.slice A 0 c):=by
 obtain⟨b,off,c,u,rfl,-,hb,-,y0,y1,y2,y3,y4⟩:=block_cells hv 0 (by simp) ⟨l,retE⟩ rfl
 have q0:w.cell? ⟨q,0,none⟩=some (.slice (some ⟨b,off,none⟩) 1 c):=hcell hq 0
 have hqz:=hlt hq
 simp only[retE,Nat.zero_mul,Nat.add_zero] at y0 y1 y2 y3 y4
 clear hv hq
 go_enter Tryz.func193,Tryz.ntmps193
 go_wp2_with fail
 refine(next_any 3 1 0 0 _).mono ?_
 rintro e w1 ⟨v,rfl,A,c1,rfl,hb1,-⟩
 have HB:=Hm hb1
 clear hb1
 have hn:(nextL 3 0 0).length=0:=rfl
 rw[hn]
 go_wp2_with fail
 go_ret
 exact⟨HB.o,_,_,rfl⟩
def PassOk (l:List Ins) (r:Nat):Prop:=∀ (ok:Nat→Prop) (v:Value) (w:World),Kd.SK kIns w ok l v→Calls Tryz.prog 197 #[.agg #[v,.int .u8 3,.int .i64 1,.int .i64 0,.int .i64 0],.agg #[.slice none 0 0]] w λe w'=>Bel w w'∧∃ v',e=.returned (.agg #[v'])∧OwnU w' w.heap.size v' [r]
theorem f196_one (l:List Ins) (r:Nat) (HP:Hd (PassOk l r)) (q:Nat) (ok:Nat→Prop) (V:Value) (w:World) (hq:w.heap[q]?=some (.cells #[V] 57 (0,0))) (hv:Kd.SK kBlock w ok [⟨l,retE⟩] V) :
  Calls Tryz.prog 196 #[.int .i64 0,.agg #[.slice none 0 0],.pointer (some ⟨q,0,none⟩)] w λe w'=>Bel w w'∧∃ g c,e=.returned (.agg #[.slice (some ⟨g,0,none⟩) 1 c]):=by
 obtain⟨b,off,c,u,rfl,-,hb,hu,y0,y1,y2,y3,y4⟩:=block_cells hv 0 (by simp) ⟨l,retE⟩ rfl
 have q0:w.cell? ⟨q,0,none⟩=some (.slice (some ⟨b,off,none⟩) 1 c):=hcell hq 0
 have hqz:=hlt hq
 have HU:=Hm hu
 simp only[retE,Nat.zero_mul,Nat.add_zero] at y0 y1 y2 y3 y4
 clear hv hq hu
 go_enter Tryz.func196,Tryz.ntmps196
 go_wp2_with fail
 refine rgn [.rd 0,.rd 1,.rd 2,.rd 3,.rd 4,.hv 5 [],.hv 6 []] (n:=12) rfl ?_
 iterate 5 (refine line_rd rfl (λK hK=>?_);go_simp;refine hK _ ?_;clear hK K)
 refine line_hv rfl ?_
 go_wp2_with fail
 have hb0:Bel w (((w.alloc (.cells #[.slice none 0 0] 291)).alloc (.cells #[.slice none 0 0] 291)).drew):=bD (bA (bA (bR w) _) _)
 refine(HP.o ok u _ (sk_bel HU.o hb0)).mono ?_
 rintro e w1 ⟨hb1,v1,rfl,ho1⟩
 obtain⟨g,c1,rfl,hg⟩:=own_form ho1 (by simp)
 have hr:w1.heap[w.heap.size+1]?=some (.cells #[.slice none 0 0] 291 (0,0)):=bHeap hb1 (hnew (w:=w.alloc (.cells #[.slice none 0 0] 291)) (by simp))
 have r0:w1.cell? ⟨w.heap.size+1,0,none⟩=some (.slice none 0 0):=hcell hr 0
 have rf:=hfree hr 0
 have rz:=hlt hr
 have HB:=Hm (bT hb0 hb1)
 clear hb0 hb1 ho1 hr
 go_wp2_with fail
 refine⟨?_,?_⟩
 ·exact trivial
 refine line_hv rfl ?_
 go_wp2_with fail
 refine⟨?_,?_⟩
 ·exact trivial
 unfold Line
 go_wp2_with fail
 refine bodyPost_ret (v:=.agg #[.slice (some ⟨g,0,none⟩) 1 c1]) (by simp[results,Tryz.results196,go_sem,r0,rz]) rfl ⟨bC HB.o (by omega) _ _,_,_,rfl⟩
structure Sv (w W:World) (q a t:Nat):Prop where
 bel:Bel w W
 prob:W.heap[w.heap.size]?=some (.cells #[.int .i64 1,.func (.func 193) #[] #[.pointer (some ⟨q,0,none⟩)],.func (.func 194) #[] #[],.func (.func 195) #[] #[],.func (.func 196) #[] #[.pointer (some ⟨q,0,none⟩)]] 332 (0,0))
 at_:W.heap[a]?=some (.cells #[.slice none 0 0] 291 (0,0))
 to_:W.heap[t]?=some (.cells #[.slice none 0 0] 29 (0,0))
 xa:w.heap.size < a
 at2:a < t
theorem Sv.only {w W W':World} {q a t:Nat} {F:Nat→Prop} (h:Sv w W q a t) (hs:Only W W' F) (hF:∀ b,F b→t < b):Sv w W' q a t :=
 have h1:=h.xa;have h2:=h.at2
 ⟨bO h.bel hs (λb e=>by have:=hF b e;omega),hs.heap h.prob (λe=>by have:=hF _ e;omega),hs.heap h.at_ (λe=>by have:=hF _ e;omega),hs.heap h.to_ (λe=>by have:=hF _ e;omega),h1,h2⟩
theorem Sv.belN {w W W':World} {q a t:Nat} (h:Sv w W q a t) (hb:Bel W W'):Sv w W' q a t:=h.only (F:=λ_=>False) (Only.bel hb) (λ_ e=>e.elim)
theorem Sv.cells {w W:World} {q a t:Nat} (h:Sv w W q a t):W.cell? ⟨w.heap.size,0,none⟩=some (.int .i64 1)∧W.cell? ⟨w.heap.size,1,none⟩=some (.func (.func 193) #[] #[.pointer (some ⟨q,0,none⟩)])∧W.cell? ⟨w.heap.size,2,none⟩=some (.func (.func 194) #[] #[])∧W.cell? ⟨w.heap.size,4,none⟩=some (.func (.func 196) #[] #[.pointer (some ⟨q,0,none⟩)])∧W.cell? ⟨a,0,none⟩=some (.slice none 0 0)∧W.cell? ⟨t,0,none⟩=some (.slice none 0 0)∧W.frozen? ⟨a,0,none⟩=false∧a < W.heap.size∧t < W.heap.size :=
 ⟨hcell h.prob 0,hcell h.prob 1,hcell h.prob 2,hcell h.prob 4,hcell h.at_ 0,hcell h.to_ 0,hfree h.at_ 0,hlt h.at_,hlt h.to_⟩
theorem Sv.put {w W:World} {q a t:Nat} (h:Sv w W q a t):Sv w (W.setCell ⟨a,0,none⟩ (.slice none 0 0)) q a t :=
 have h1:=h.xa;have h2:=h.at2
 ⟨bC h.bel (by omega) _ _,hset h.prob (by omega),set_at (cs:=[.slice none 0 0]) h.at_ 0 _,hset h.to_ (by omega),h1,h2⟩
theorem solve_one (l:List Ins) (r:Nat) (HP:Hd (PassOk l r)) (q:Nat) (ok:Nat→Prop) (V:Value) (w:World) (hq:w.heap[q]?=some (.cells #[V] 57 (0,0))) (hv:Kd.SK kBlock w ok [⟨l,retE⟩] V) :
  Calls Tryz.prog 192 #[.agg #[.int .i64 1,.func (.func 193) #[] #[.pointer (some ⟨q,0,none⟩)],.func (.func 194) #[] #[],.func (.func 195) #[] #[],.func (.func 196) #[] #[.pointer (some ⟨q,0,none⟩)]]] w λe w'=>Bel w w'∧∃ g,e=.returned (.slice (some ⟨g,0,none⟩) 1 1)∧w.heap.size≤g∧w'.heap[g]?=some (.cells #[.slice none 0 0] 291 (0,0)):=by
 have HV:=Hm (And.intro hq hv)
 have hqz:=hlt hq
 have k1:∀ w,(Instr.makeSlice 293 (.int .i64 1) (.int .i64 1)).run Tryz.prog w=.ok (.slice (some ⟨w.heap.size,0,none⟩) 1 1) (w.alloc (.cells #[.slice none 0 0] 291)):=λ_=>by kernel_rfl
 have k2:∀ w,(Instr.makeSlice 279 (.int .i64 1) (.int .i64 1)).run Tryz.prog w=.ok (.slice (some ⟨w.heap.size,0,none⟩) 1 1) (w.alloc (.cells #[.slice none 0 0] 29)):=λ_=>by kernel_rfl
 clear hq hv
 go_enter Tryz.func192,Tryz.ntmps192
 go_wp2_with fail
 refine wp_loop_rounds 2 ?_
 rw[rounds_succ]
 go_wp2_with fail
 have HS0:Hd (Sv w ((((w.alloc (.cells #[.int .i64 1,.func (.func 193) #[] #[.pointer (some ⟨q,0,none⟩)],.func (.func 194) #[] #[],.func (.func 195) #[] #[],.func (.func 196) #[] #[.pointer (some ⟨q,0,none⟩)]] 332)).alloc (.cells #[.slice none 0 0] 291)).alloc (.cells #[.slice none 0 0] 29)).alloc (.cells #[.slice none 0 0,.map none] 352)) q (w.heap.size+1) (w.heap.size+1+1)) :=
  ⟨bA (bA (bA (bA (bR _) _) _) _) _,bHeap (bA (bA (bA (bR _) _) _) _) (hnew rfl),bHeap (bA (bA (bR _) _) _) (hnew (by simp)),bHeap (bA (bR _) _) (hnew (by simp)),by omega,by omega⟩
 have HP0:Hd (((((w.alloc (.cells #[.int .i64 1,.func (.func 193) #[] #[.pointer (some ⟨q,0,none⟩)],.func (.func 194) #[] #[],.func (.func 195) #[] #[],.func (.func 196) #[] #[.pointer (some ⟨q,0,none⟩)]] 332)).alloc (.cells #[.slice none 0 0] 291)).alloc (.cells #[.slice none 0 0] 29)).alloc (.cells #[.slice none 0 0,.map none] 352)).heap[w.heap.size+1+1+1]?=some (.cells #[.slice none 0 0,.map none] 352 (0,0))):=⟨hnew (by simp)⟩
 refine(f194_any _ _).mono ?_
 rintro e w1 ⟨rfl,hb1⟩
 have HS1:=Hm (HS0.o.belN hb1)
 have HP1:=Hm (bHeap hb1 HP0.o)
 clear hb1 HS0 HP0 k1 k2
 generalize hp:w.heap.size+1+1+1=p at *
 generalize ht:w.heap.size+1+1=t at *
 generalize ha:w.heap.size+1=a at *
 have htp:t < p:=by omega
 have hat:a < t:=by omega
 have hxa:w.heap.size < a:=by omega
 have HN:=Hm (And.intro hp (And.intro ht ha))
 clear hp ht ha
 obtain⟨x0,x1,x2,x4,a0,t0,af,az,tz⟩:=HS1.o.cells
 go_wp2_with fail
 have HS2:=Hm HS1.o.put
 have HP2:=Hm (hset (p:=a) (k:=0) (v:=.slice none 0 0) HP1.o (by omega))
 clear HS1 HP1 x0 x1 x2 x4 a0 t0 af az tz
 generalize w1.setCell ⟨a,0,none⟩ (.slice none 0 0)=w2 at *
 refine(que_put p w2 HP2.o).mono ?_
 rintro e w3 ⟨rfl,hs3,v,m,hq3⟩
 have HS3:=Hm (HS2.o.only hs3 (λb e=>by omega))
 have hz2:=hlt HP2.o
 have HZ2:=Hm hz2
 have hmz:p≠m:=by
  rintro rfl
  have h1:=hq3.head
  rw[hq3.map_] at h1
  cases h1
 have HQ3:=Hm hq3
 have hpz3:=hlt hq3.head
 clear hs3 hq3 HP2 HS2
 obtain⟨x0,x1,x2,x4,a0,t0,af,az,tz⟩:=HS3.o.cells
 go_wp2_with fail
 refine(f193_one l q ok V w3 (bHeap HS3.o.bel HV.o.1) (sk_bel HV.o.2 HS3.o.bel)).mono ?_
 rintro e w4 ⟨hb4,A4,c4,rfl⟩
 have HS4:=Hm (HS3.o.belN hb4)
 have HQ4:Hd (QueAt w4 p w2.heap.size v m):=⟨⟨bHeap hb4 HQ3.o.head,own_below HQ3.o.own hb4,bHeap hb4 HQ3.o.map_,HQ3.o.mb⟩⟩
 clear hb4 HS3 HQ3 x0 x1 x2 x4 a0 t0 af az tz hpz3
 go_wp2_with fail
 refine wp_loop_rounds 1 ?_
 rw[rounds_succ]
 go_wp2_with fail
 rw[rounds_succ]
 go_wp2_with fail
 refine wp_loop_rounds 2 ?_
 rw[rounds_succ]
 go_wp2_with fail
 obtain⟨g4,c4',e4,hg4,hgz4,hc4⟩:=ints_at HQ4.o.own (by simp)
 subst e4
 refine(que_len p (some ⟨g4,0,none⟩) 1 c4' w4 (hcell HQ4.o.head 0)).mono ?_
 rintro e w5 ⟨rfl,rfl⟩
 clear hc4 hgz4
 go_wp2_with fail
 refine(que_take p w2.heap.size _ m hmz w4 HQ4.o).mono ?_
 rintro e w5 ⟨rfl,hs5,A5,c5,k5⟩
 have hlo:t < m:=by have:=HQ4.o.mb;have:=HZ2.o;omega
 have HS5:=Hm (HS4.o.only hs5 (λb e=>by omega))
 clear hs5 HS4 HQ4
 obtain⟨x0,x1,x2,x4,a0,t0,af,az,tz⟩:=HS5.o.cells
 go_wp2_with fail
 refine rgt (.rd 0 (.rd 2 (.rd 3 (.rd 4 (.rd 1 (.rd 5 (.rd 6 (.br 7 [] (.hv 8 [] (.hv 9 [] (.nil))) (.hv 8 [0,2,3,4,1,5,6] (.hv 7 [] (.hv 9 [] (.nil)))))))))))) (n:=89) rfl ?_
 iterate 7 (refine tree_rd rfl (λK hK=>?_);go_simp;refine hK _ ?_;clear hK K)
 refine tree_br rfl ?_ ?_
 ·go_wp2_with fail
  refine(f196_one l r HP q ok V w5.drew (bHeap (bD HS5.o.bel) HV.o.1) (sk_bel HV.o.2 (bD HS5.o.bel))).mono ?_
  rintro e w6 ⟨hb6,g6,c6,rfl⟩
  have HS6:=Hm (HS5.o.belN (bU hb6))
  have k6:=bCell (bU hb6) k5
  clear hb6 HS5 x0 x1 x2 x4 a0 t0 af az tz k5
  go_wp2_with fail
  refine⟨?_,?_⟩
  ·exact trivial
  refine tree_hv rfl ?_
  go_wp2_with fail
  refine⟨?_,?_⟩
  ·exact trivial
  refine tree_hv rfl ?_
  go_wp2_with fail
  refine⟨?_,?_⟩
  ·exact trivial
  unfold TreeL
  have HS7:=Hm (HS6.o.belN (bA (bR w6) (.cells #[.slice (some ⟨g6,0,none⟩) 1 c6] 291)))
  have k7:=bCell (bA (bR w6) (.cells #[.slice (some ⟨g6,0,none⟩) 1 c6] 291)) k6
  generalize w6.alloc (.cells #[.slice (some ⟨g6,0,none⟩) 1 c6] 291)=w7 at *
  obtain⟨x0,x1,x2,x4,a0,t0,af,az,tz⟩:=HS7.o.cells
  go_wp2_with fail
  refine wp_loop_rounds 1 ?_
  rw[rounds_succ]
  go_wp2_with fail
  rw[rounds_succ]
  go_wp2_with fail
  refine(que_len p A5 0 c5 w7 k7).mono ?_
  rintro e w8 ⟨rfl,rfl⟩
  go_wp2_with fail
  go_ret
  exact⟨HS7.o.bel,a,rfl,by omega,HS7.o.at_⟩
 ·have xz:=hlt HS5.o.prob
  refine tree_hv rfl ?_
  go_wp2_with fail
  refine⟨?_,?_⟩
  ·simp only[Again,slotOf]
   go_simp
  refine tree_hv rfl ?_
  go_wp2_with fail
  have hb0:Bel w5 ((w5.alloc (.cells #[.slice none 0 0] 291)).drew):=bD (bA (bR _) _)
  refine(f196_one l r HP q ok V _ (bHeap (bT HS5.o.bel hb0) HV.o.1) (sk_bel HV.o.2 (bT HS5.o.bel hb0))).mono ?_
  rintro e w6 ⟨hb6,g6,c6,rfl⟩
  have HS6:=Hm (HS5.o.belN (bT hb0 hb6))
  have k6:=bCell (bT hb0 hb6) k5
  have hh:w6.heap[w5.heap.size]?=some (.cells #[.slice none 0 0] 291 (0,0)):=bHeap hb6 (hnew (w:=w5) rfl)
  have h0:=hcell hh 0
  have h1:=hfree hh 0
  have h2:=hlt hh
  have hlt5:p < w5.heap.size:=World.block_lt_of_cell? _ _ k5
  have htz5:=tz
  simp at h0
  clear hb0 hb6 HS5 x0 x1 x2 x4 a0 t0 af az tz k5 hh
  go_wp2_with fail
  refine⟨?_,?_⟩
  ·exact trivial
  refine tree_hv rfl ?_
  go_wp2_with fail
  refine⟨?_,?_⟩
  ·exact trivial
  unfold TreeL
  have hO:Only w6 (w6.setCell ⟨w5.heap.size,0,none⟩ (.slice (some ⟨g6,0,none⟩) 1 c6)) (λb=>b=w5.heap.size):=oC (F:=λb=>b=w5.heap.size) (Only.refl w6 _) rfl _ _
  have HS7:=Hm (HS6.o.only hO (λb e=>by omega))
  have k7:=only_cell hO k6 (by omega)
  clear hO h0 h1 h2 k6 HS6
  generalize w6.setCell ⟨w5.heap.size,0,none⟩ (.slice (some ⟨g6,0,none⟩) 1 c6)=w7 at *
  obtain⟨x0,x1,x2,x4,a0,t0,af,az,tz⟩:=HS7.o.cells
  go_wp2_with fail
  refine wp_loop_rounds 1 ?_
  rw[rounds_succ]
  go_wp2_with fail
  rw[rounds_succ]
  go_wp2_with fail
  refine(que_len p A5 0 c5 w7 k7).mono ?_
  rintro e w8 ⟨rfl,rfl⟩
  go_wp2_with fail
  go_ret
  exact⟨HS7.o.bel,a,rfl,by omega,HS7.o.at_⟩
theorem iSet:EI 291 1 24 (.agg #[.slice none 0 0]):=EI.mk (by kernel_rfl) rfl (by omega) (by omega)
def LivePost (w:World) (r:Nat) (e:Ending) (w':World):Prop :=
 Bel w w'∧∃ gi ci vi go,e=.returned (.tuple #[.slice (some ⟨gi,0,none⟩) 1 ci,.slice (some ⟨go,0,none⟩) 1 1])∧w'.cell? ⟨gi,0,none⟩=some vi∧OwnU w' w.heap.size vi [r]∧w'.cell? ⟨go,0,none⟩=some (.slice none 0 0)
theorem live_one (l:List Ins) (r:Nat) (HP:Hd (PassOk l r)) (ok:Nat→Prop) (V:Value) (w:World) (hv:Kd.SK kBlock w ok [⟨l,retE⟩] V):Calls Tryz.prog 165 #[V] w (LivePost w r):=by
 have HV:=Hm hv
 obtain⟨b,off,c,u,rfl,-,hb,-⟩:=block_cells hv 0 (by simp) ⟨l,retE⟩ rfl
 clear hv
 go_enter Tryz.func165,Tryz.ntmps165
 go_wp2_with fail
 have hb0:Bel w (w.alloc (.cells #[.slice (some ⟨b,off,none⟩) 1 c] 57)):=bA (bR _) _
 refine(solve_one l r HP w.heap.size ok _ _ (hnew rfl) (sk_bel HV.o hb0)).mono ?_
 rintro e w1 ⟨hb1,g,rfl,hg,hh⟩
 have hq:w1.heap[w.heap.size]?=some (.cells #[.slice (some ⟨b,off,none⟩) 1 c] 57 (0,0)):=bHeap hb1 (hnew rfl)
 have HB1:=Hm (bT hb0 hb1)
 have g0:=hcell hh 0
 have gz:=hlt hh
 have q0:=hcell hq 0
 have qz:=hlt hq
 simp at g0 q0
 clear hb0 hb1 hh hq
 go_wp2_with fail
 refine wp_loop_rounds 2 ?_
 rw[rounds_succ]
 go_wp2_with fail
 obtain⟨b',off',c',u',e',-,hb',hu',y0,y1,y2,y3,y4⟩:=block_cells (sk_bel HV.o HB1.o) 0 (by simp) ⟨l,retE⟩ rfl
 cases e'
 simp only[retE,Nat.zero_mul,Nat.add_zero] at y0 y1 y2 y3 y4
 have HU:=Hm hu'
 clear hu'
 refine rgn [.rd 0,.rd 1,.rd 2,.rd 3,.rd 4,.rd 5,.hv 6 [0],.hv 7 [0],.hv 8 [],.rd 9] (n:=31) rfl ?_
 iterate 6 (refine line_rd rfl (λK hK=>?_);go_simp;refine hK _ ?_;clear hK K)
 refine line_hv rfl ?_
 go_wp2_with fail
 have hb1:Bel w1 ((w1.alloc (.cells #[.slice none 0 0] 291)).drew):=bD (bA (bR _) _)
 refine(HP.o ok u' _ (sk_bel HU.o hb1)).mono ?_
 rintro e w2 ⟨hb2,v2,rfl,ho2⟩
 obtain⟨g2,c2,rfl,hg2⟩:=own_form ho2 (by simp)
 have HB2:=Hm (bT HB1.o (bT hb1 hb2))
 have g0':=bCell (bT hb1 hb2) g0
 have HO2:=Hm (own_base ho2 (bT HB1.o hb1).size)
 have hz2:=HB2.o.size
 clear hb1 hb2 ho2 g0 gz q0 qz y0 y1 y2 y3 y4
 go_wp2_with fail
 refine⟨?_,?_⟩
 ·simp only[Again,slotOf]
  go_simp
 refine line_hv rfl ?_
 go_wp2_with fail
 refine⟨?_,?_⟩
 ·simp only[Again,slotOf]
  go_simp
 refine line_hv rfl ?_
 refine app0 iSet Tryz.underlying293 rfl (.tmp 19) (.tmp 26) rfl rfl (own_none _ w.heap.size 291 1 0 rfl) (show w.heap.size≤(w2.alloc _).heap.size by simp;omega) (A:=some ⟨w2.heap.size,0,none⟩) (m:=1) (c:=1) rfl (row_new w2 [.slice (some ⟨g2,0,none⟩) 1 c2] 291 (0,0)) rfl (by omega) ?_
 intro v3 w3 hb3 ho3
 obtain⟨g3,c3,rfl,hg3⟩:=own_form ho3 (by omega)
 have hc3:w3.cell? ⟨g3,0,none⟩=some (.slice (some ⟨g2,0,none⟩) 1 c2):=by have:=ho3.cellAt 0 (by simp);simpa using this
 have HB3:=Hm (bT HB2.o (bUA hb3))
 have HO3:=Hm (own_below HO2.o (bUA hb3))
 have g0'':=bCell (bUA hb3) g0'
 clear hb3 ho3 g0' hz2
 go_wp2_with fail
 refine⟨?_,?_⟩
 ·exact trivial
 refine line_rd rfl (λK hK=>?_);go_simp;refine hK _ ?_;clear hK K
 unfold Line
 go_wp2_with fail
 rw[rounds_succ]
 go_wp2_with fail
 go_ret2
 exact⟨HB3.o,_,_,_,_,rfl,hc3,HO3.o,g0''⟩
def BehindPost (w:World) (e:Ending) (w':World):Prop :=
 Bel w w'∧∃ g v0 v1,e=.returned (.slice (some ⟨g,0,none⟩) 2 2)∧w'.heap[g]?=some (.cells #[v0,v1] 291 (0,0))∧OwnU w' w.heap.size v0 [1]∧OwnU w' w.heap.size v1 [2]
theorem behind_two (ok:Nat→Prop) (v:Value) (w:World) (hv:Kd.SK kIns w ok [filI,binI] v) :
  Calls Tryz.prog 181 #[.agg #[v,.int .u8 3,.int .i64 1,.int .i64 0,.int .i64 0],.agg #[.slice none 0 0]] w (BehindPost w):=by
 have HV:=Hm hv
 obtain⟨bI,oI,cI,A0,c0,rfl,-⟩:=ins_cells hv 0 (by simp) filI rfl rfl
 have k1:∀ w,(Instr.makeSlice 293 (.int .i64 2) (.int .i64 2)).run Tryz.prog w=.ok (.slice (some ⟨w.heap.size,0,none⟩) 2 2) (w.alloc (.cells #[.slice none 0 0,.slice none 0 0] 291)):=λ_=>by kernel_rfl
 clear hv
 go_enter Tryz.func181,Tryz.ntmps181
 go_wp2_with fail
 refine(copy_nil _).mono ?_
 rintro e w1 ⟨rfl,hb1⟩
 have HB1:=Hm (bUA (bUA hb1))
 have h3:w1.heap[w.heap.size]?=some (.cells #[.slice (some ⟨bI,oI,none⟩) 2 cI,.int .u8 3,.int .i64 1,.int .i64 0,.int .i64 0] 97 (0,0)):=bHeap (bUA hb1) (hnew rfl)
 obtain⟨q0,q1,q2,q3,q4,qz⟩:=cs5 h3
 have HQ:=Hm h3
 have hz1:=hb1.size
 simp only[World.size_alloc] at hz1
 clear hb1 h3
 go_wp2_with fail
 obtain⟨W2,hW2⟩:∃ W2,W2=w1.alloc (.cells #[.slice none 0 0] 291):=⟨_,rfl⟩
 obtain⟨p,hp⟩:∃ p,p=w1.heap.size:=⟨_,rfl⟩
 rw[←hW2,←hp]
 have HP2:Hd (W2.heap[p]?=some (.cells #[.slice none 0 0] 291 (0,0))):=⟨by rw[hW2];exact hnew hp⟩
 have HB2:Hd (Bel w1 W2):=⟨by rw[hW2];exact bA (bR _) _⟩
 have HQ2:=Hm (bHeap HB2.o HQ.o)
 have hpq:w.heap.size+2≤p:=by omega
 have HBw2:=Hm (bT HB1.o HB2.o)
 clear hW2 hp q0 q1 q2 q3 q4 qz hz1 HB1 HB2 HQ
 refine(last_any 3 1 0 0 _).mono ?_
 rintro e w3 ⟨rfl,hb3⟩
 have HP3:=Hm (bHeap hb3 HP2.o)
 have HQ3:=Hm (bHeap hb3 HQ2.o)
 have HB3:=Hm (bT HBw2.o hb3)
 clear hb3 HP2 HQ2 HBw2
 have lb:lastB 3=true:=rfl
 rw[lb]
 clear lb
 go_wp2_with fail
 have hpz3:=hlt HP3.o
 refine(put_nil 1 (by omega) p 0 [.slice none 0 0] 291 w3 HP3.o rfl).mono ?_
 rintro e w4 ⟨rfl,v,hs4,hp4,ho4⟩
 have HS4:Hd (SetAt w4 p w3.heap.size v 2):=⟨⟨hp4,ho4,λe=>by have:=(ho4.lt _ e).1;omega⟩⟩
 have HB4:=Hm (bO HB3.o hs4 (λb e=>by omega))
 have HQ4:=Hm (hs4.heap HQ3.o (by omega))
 have hz3:=HB3.o.size
 clear hs4 hp4 ho4 HP3 HQ3
 obtain⟨q0,q1,q2,q3,q4,qz⟩:=cs5 HQ4.o
 go_wp2_with fail
 obtain⟨g,hgg⟩:∃ g,g=w4.heap.size:=⟨_,rfl⟩
 rw[←hgg]
 have hpg:p < g:=by rw[hgg];exact hlt HS4.o.head
 have HG4:Hd ((w4.alloc (.cells #[.slice none 0 0,.slice none 0 0] 291)).heap[g]?=some (.cells #[.slice none 0 0,.slice none 0 0] 291 (0,0))):=⟨hnew hgg⟩
 have HS5:=Hm (HS4.o.bel (bA (bR w4) (.cells #[.slice none 0 0,.slice none 0 0] 291)))
 have HB5:=Hm (bT HB4.o (bA (bR w4) (.cells #[.slice none 0 0,.slice none 0 0] 291)))
 have HQ5:=Hm (bHeap (bA (bR w4) (.cells #[.slice none 0 0,.slice none 0 0] 291)) HQ4.o)
 have HL:Hd (∀ b,v.ownBlock=some b→w3.heap.size≤b∧b < g):=⟨λb e=>⟨(HS4.o.own.lt _ e).1,by rw[hgg];exact HS4.o.lt b e⟩⟩
 clear HS4 HB4 HQ4 q0 q1 q2 q3 q4 qz hgg k1
 generalize w4.alloc (.cells #[.slice none 0 0,.slice none 0 0] 291)=w5 at *
 have HG5:=HG4
 clear HG4
 refine wp_loop_rounds 3 ?_
 rw[rounds_succ]
 have s0:=HS5.o.c0
 go_wp2_with fail
 refine(copy_own 2 w3.heap.size v w5 HS5.o.own).mono ?_
 rintro e w6 ⟨hb,vA,rfl,hoA⟩
 obtain⟨gA,cA,rfl,hgA⟩:=own_form hoA (by simp)
 have HS6:=Hm (HS5.o.bel hb)
 have HB6:=Hm (bT HB5.o hb)
 have HQ6:=Hm (bHeap hb HQ5.o)
 have HG6:=Hm (bHeap hb HG5.o)
 have HOAw6:=Hm (own_base hoA HB5.o.size)
 have HAg:Hd (g < gA):=⟨Nat.lt_of_lt_of_le (hlt HG5.o) hgA⟩
 have z0:=hcell HG6.o 0
 have z1:=hcell HG6.o 1
 obtain⟨zf0,zf1⟩:=fF2 HG6.o
 have zz:=hlt HG6.o
 simp at z0 z1
 obtain⟨q0,q1,q2,q3,q4,qz⟩:=cs5 HQ6.o
 clear hb hoA s0 HG5 HS5 HB5 HQ5
 have hO:Only w6 (w6.setCell ⟨g,1,none⟩ (.slice (some ⟨gA,0,none⟩) 1 cA)) (λb=>b=g):=oC (F:=λb=>b=g) (Only.refl w6 _) rfl _ _
 have HG7:Hd ((w6.setCell ⟨g,1,none⟩ (.slice (some ⟨gA,0,none⟩) 1 cA)).heap[g]?=some (.cells #[.slice none 0 0,.slice (some ⟨gA,0,none⟩) 1 cA] 291 (0,0))):=⟨set_at (cs:=[.slice none 0 0,.slice none 0 0]) HG6.o 1 _⟩
 have HS7:=Hm (SetAt.mk (hO.heap HS6.o.head (λe=>by have:p=g:=e;omega)) (own_only HS6.o.own hO (λb hb e=>by have:=HL.o b hb;have:b=g:=e;omega)) HS6.o.ne)
 have HB7:=Hm (bO HB6.o hO (λb e=>by have:b=g:=e;omega))
 have HQ7:=Hm (hO.heap HQ6.o (λe=>by have:w.heap.size=g:=e;omega))
 have HOAw7:=Hm (own_only HOAw6.o hO (λb hb e=>by have h2:=HAg.o;cases hb;have:gA=g:=e;omega))
 obtain⟨bJ,oJ,cJ,A1,c1,e1,-,-,y0,y1,y2,y3,y4,y5,y6⟩:=ins_cells (sk_bel HV.o HB7.o) 1 (by simp) binI rfl rfl
 cases e1
 simp only[binI,Nat.zero_mul,Nat.one_mul,Nat.add_zero] at y0 y1 y2 y3 y4 y5 y6
 have q0':(w6.setCell ⟨g,1,none⟩ (.slice (some ⟨gA,0,none⟩) 1 cA)).cell? ⟨w.heap.size,0,none⟩=some (.slice (some ⟨bI,oI,none⟩) 2 cI):=hcell HQ7.o 0
 clear hO
 go_wp2_with fail
 generalize w6.setCell ⟨g,1,none⟩ (.slice (some ⟨gA,0,none⟩) 1 cA)=w7 at *
 refine(back_bin p w3.heap.size c1 v A1 w7 HS7.o).mono ?_
 rintro e w8 ⟨rfl,hs,hS⟩
 have HS8:=Hm hS
 have HB8:=Hm (bO HB7.o hs (λb e=>by have:=HL.o b e;omega))
 have HQ8:=Hm (hs.heap HQ7.o (λe=>by have:=HL.o _ e;omega))
 have HG8:=Hm (hs.heap HG7.o (λe=>by have:=HL.o _ e;omega))
 have HOAw8:=Hm (own_only HOAw7.o hs (λb hb e=>by have h2:=HAg.o;cases hb;have h1:w3.heap.size≤gA∧gA < g:=HL.o _ e;omega))
 clear hs hS HS6 HS7 HB6 HB7 HQ6 HQ7 HG6 HG7 q0 q1 q2 q3 q4 qz q0' y0 y1 y2 y3 y4 y5 y6 z0 z1 zf0 zf1 zz
 go_wp2_with fail
 rw[rounds_succ]
 have s0:=HS8.o.c0
 go_wp2_with fail
 refine(copy_own 1 w3.heap.size v w8 HS8.o.own).mono ?_
 rintro e w9 ⟨hb,vZ,rfl,hoZ⟩
 obtain⟨gZ,cZ,rfl,hgZ⟩:=own_form hoZ (by simp)
 have HS9:=Hm (HS8.o.bel hb)
 have HB9:=Hm (bT HB8.o hb)
 have HQ9:=Hm (bHeap hb HQ8.o)
 have HG9:=Hm (bHeap hb HG8.o)
 have HOZw9:=Hm (own_base hoZ HB8.o.size)
 have HZg:Hd (g < gZ):=⟨Nat.lt_of_lt_of_le (hlt HG8.o) hgZ⟩
 have HOAw9:=Hm (own_below HOAw8.o hb)
 have z0:=hcell HG9.o 0
 have z1:=hcell HG9.o 1
 obtain⟨zf0,zf1⟩:=fF2 HG9.o
 have zz:=hlt HG9.o
 simp at z0 z1
 obtain⟨q0,q1,q2,q3,q4,qz⟩:=cs5 HQ9.o
 clear hb hoZ s0 HG8 HS8 HB8 HQ8
 have hO:Only w9 (w9.setCell ⟨g,0,none⟩ (.slice (some ⟨gZ,0,none⟩) 1 cZ)) (λb=>b=g):=oC (F:=λb=>b=g) (Only.refl w9 _) rfl _ _
 have HG10:Hd ((w9.setCell ⟨g,0,none⟩ (.slice (some ⟨gZ,0,none⟩) 1 cZ)).heap[g]?=some (.cells #[.slice (some ⟨gZ,0,none⟩) 1 cZ,.slice (some ⟨gA,0,none⟩) 1 cA] 291 (0,0))):=⟨set_at (cs:=[.slice none 0 0,.slice (some ⟨gA,0,none⟩) 1 cA]) HG9.o 0 _⟩
 have HS10:=Hm (SetAt.mk (hO.heap HS9.o.head (λe=>by have:p=g:=e;omega)) (own_only HS9.o.own hO (λb hb e=>by have:=HL.o b hb;have:b=g:=e;omega)) HS9.o.ne)
 have HB10:=Hm (bO HB9.o hO (λb e=>by have:b=g:=e;omega))
 have HQ10:=Hm (hO.heap HQ9.o (λe=>by have:w.heap.size=g:=e;omega))
 have HOZw10:=Hm (own_only HOZw9.o hO (λb hb e=>by have h2:=HZg.o;cases hb;have:gZ=g:=e;omega))
 have HOAw10:=Hm (own_only HOAw9.o hO (λb hb e=>by have:=(HOAw9.o.lt _ hb).1;have h2:=HAg.o;cases hb;have:gA=g:=e;omega))
 obtain⟨bJ,oJ,cJ,A2,c2,e2,-,-,y0,y1,y2,y3,y4,y5,y6⟩:=ins_cells (sk_bel HV.o HB10.o) 0 (by simp) filI rfl rfl
 cases e2
 simp only[filI,Nat.zero_mul,Nat.one_mul,Nat.add_zero] at y0 y1 y2 y3 y4 y5 y6
 have q0':(w9.setCell ⟨g,0,none⟩ (.slice (some ⟨gZ,0,none⟩) 1 cZ)).cell? ⟨w.heap.size,0,none⟩=some (.slice (some ⟨bI,oI,none⟩) 2 cI):=hcell HQ10.o 0
 clear hO
 go_wp2_with fail
 generalize w9.setCell ⟨g,0,none⟩ (.slice (some ⟨gZ,0,none⟩) 1 cZ)=w10 at *
 refine(back_fill p w3.heap.size c2 v A2 w10 HS10.o).mono ?_
 rintro e w11 ⟨rfl,hs,hS⟩
 have HS11:=Hm hS
 have HB11:=Hm (bO HB10.o hs (λb e=>by have:=HL.o b e;omega))
 have HQ11:=Hm (hs.heap HQ10.o (λe=>by have:=HL.o _ e;omega))
 have HG11:=Hm (hs.heap HG10.o (λe=>by have:=HL.o _ e;omega))
 have HOAw11:=Hm (own_only HOAw10.o hs (λb hb e=>by have h2:=HAg.o;cases hb;have h1:w3.heap.size≤gA∧gA < g:=HL.o _ e;omega))
 have HOZw11:=Hm (own_only HOZw10.o hs (λb hb e=>by have h2:=HZg.o;cases hb;have h1:w3.heap.size≤gZ∧gZ < g:=HL.o _ e;omega))
 clear hs hS HS9 HS10 HB9 HB10 HQ9 HQ10 HG9 HG10 q0 q1 q2 q3 q4 qz q0' y0 y1 y2 y3 y4 y5 y6 z0 z1 zf0 zf1 zz
 go_wp2_with fail
 rw[rounds_succ]
 go_wp2_with fail
 go_ret
 exact⟨HB11.o,g,_,_,rfl,HG11.o,HOZw11.o,HOAw11.o⟩
theorem isortE (fv:Value) (w:World):Calls Tryz.prog 251 #[.slice none 0 0,.int .i64 0,.int .i64 0,fv] w λe w'=>e=.returned (.tuple #[])∧w'=w:=by
 go_enter Tryz.func251,Tryz.ntmps251
 go_wp2
 refine wp_loop_rounds 1 ?_
 rw[rounds_succ]
 go_wp2
 go_end0
 exact⟨rfl,rfl⟩
theorem pdqE (lim:Int) (fv:Value) (w:World):Calls Tryz.prog 234 #[.slice none 0 0,.int .i64 0,.int .i64 0,.int .i64 lim,fv] w λe w'=>e=.returned (.tuple #[])∧w'=w:=by
 have HI:=Hm (isortE fv w)
 go_enter Tryz.func234,Tryz.ntmps234
 go_wp2
 refine wp_loop_rounds 1 ?_
 rw[rounds_succ]
 go_wp2_with (go_at_call 251;refine HI.o.mono ?_;rintro e w' ⟨rfl,rfl⟩)
 (try simp only[Exit.inBlock,Exit.then]);refine bodyPost_ret (results_none rfl _ _ _) rfl ?_
 exact⟨rfl,rfl⟩
theorem sortE (fv:Value) (w:World):Calls Tryz.prog 209 #[.slice none 0 0,fv] w λe w'=>e=.returned (.tuple #[])∧w'=w:=by
 have HL:=Hm (len64_0 w)
 have HP:=Hm λlim=>pdqE lim fv w
 go_enter Tryz.func209,Tryz.ntmps209
 go_wp2_with (first|(go_at_call 235;refine HL.o.mono ?_;rintro e w' ⟨⟨r,rfl⟩,rfl⟩)|(go_at_call 234;refine(HP.o _).mono ?_;rintro e w' ⟨rfl,rfl⟩))
 go_end0
 exact⟨rfl,rfl⟩
theorem compactE (w:World):Calls Tryz.prog 211 #[.slice none 0 0] w λe w'=>e=.returned (.slice none 0 0)∧w'=w:=by
 go_enter Tryz.func211,Tryz.ntmps211
 go_wp2
 go_ret
 exact⟨rfl,rfl⟩
theorem sortedE (w:World):Calls Tryz.prog 183 #[.slice none 0 0] w λe w'=>e=.returned (.slice none 0 0)∧w'=w:=by
 have HL:=Hm λfv=>sortE fv w
 have HP:=Hm (compactE w)
 go_enter Tryz.func183,Tryz.ntmps183
 go_wp2_with (first|(go_at_call 209;refine(HL.o _).mono ?_;rintro e w' ⟨rfl,rfl⟩)|(go_at_call 211;refine HP.o.mono ?_;rintro e w' ⟨rfl,rfl⟩))
 go_ret
 exact⟨rfl,rfl⟩
theorem indexE (fv:Value) (w:World):Calls Tryz.prog 261 #[.slice none 0 0,fv] w λe w'=>e=.returned (.int .i64 (-1))∧w'=w:=by
 go_enter Tryz.func261,Tryz.ntmps261
 go_wp2
 refine wp_loop_rounds 1 ?_
 rw[rounds_succ]
 go_wp2
 go_ret
 exact⟨rfl,rfl⟩
theorem containsE (fv:Value) (w:World):Calls Tryz.prog 238 #[.slice none 0 0,fv] w λe w'=>e=.returned (.bool false)∧w'=w:=by
 have HL:=Hm (indexE fv w)
 go_enter Tryz.func238,Tryz.ntmps238
 go_wp2_with (go_at_call 261;refine HL.o.mono ?_;rintro e w' ⟨rfl,rfl⟩)
 go_ret
 exact⟨rfl,rfl⟩
theorem rightE (p:Value) (w:World):Calls Tryz.prog 236 #[.slice none 0 0,p] w λe w'=>e=.returned (.bool true)∧w'=w:=by
 go_enter Tryz.func236,Tryz.ntmps236
 go_wp2
 refine wp_loop_rounds 1 ?_
 rw[rounds_succ]
 go_wp2
 go_ret
 exact⟨rfl,rfl⟩
theorem gcheckE (w:World):Calls Tryz.prog 213 #[.agg #[.int .i64 2,.slice none 0 0,.slice none 0 0]] w λe w'=>e=.returned (.bool true)∧Bel w w':=by
 have HR:=Hm rightE
 have HC:=Hm containsE
 go_enter Tryz.func213,Tryz.ntmps213
 go_wp2_with fail
 refine(HR.o _ _).mono ?_
 rintro e w1 ⟨rfl,rfl⟩
 go_wp2_with fail
 refine(HR.o _ _).mono ?_
 rintro e w1 ⟨rfl,rfl⟩
 go_wp2_with fail
 refine(HC.o _ _).mono ?_
 rintro e w1 ⟨rfl,rfl⟩
 go_wp2_with fail
 go_ret
 exact⟨rfl,bA (bR w) _⟩
theorem nearE (w:World):Calls Tryz.prog 188 #[.agg #[.int .i64 2,.slice none 0 0,.slice none 0 0]] w λe w'=>Bel w w'∧∃ g,e=.returned (.slice (some ⟨g,0,none⟩) 2 2)∧w.heap.size≤g∧w'.heap[g]?=some (.cells #[.slice none 0 0,.slice none 0 0] 291 (0,0)):=by
 have k1:∀ w,(Instr.makeSlice 293 (.int .i64 2) (.int .i64 2)).run Tryz.prog w=.ok (.slice (some ⟨w.heap.size,0,none⟩) 2 2) (w.alloc (.cells #[.slice none 0 0,.slice none 0 0] 291)):=λ_=>by kernel_rfl
 go_enter Tryz.func188,Tryz.ntmps188
 go_wp2_with fail
 refine wp_loop_rounds 1 ?_
 rw[rounds_succ]
 go_wp2_with fail
 go_ret
 exact⟨bA (bA (bR w) _) _,_,rfl,by simp,hnew (by simp)⟩
end Go.Proofs.YtjkgligohegaeaaGreatDoor
