/- Texts of the top seat, merged: what the claim uses of them. -/
import Derived.Deep.Slices
import Derived.Test.YtjkgligohegaeaaGreatDoorM29
import Derived.Test.YtjkgligohegaeaaGreatDoorM01
set_option linter.unusedVariables false
set_option linter.unusedSimpArgs false
set_option linter.unusedSectionVars false
set_option maxRecDepth 20000
set_option maxHeartbeats 12800000
namespace Go.Proofs.YtjkgligohegaeaaGreatDoor
open Go.RowKit
theorem tellOk_nv {st:FSt} {f:Func} {j:Nat} (hf:st.fs[j]?=some f) (hs:Small f) (hj:j < 16) (h3:3≤st.regs) (h8:st.regs≤8) (lease:Nat) (hl:lease < 18446744073709551616) (l:List UInt8):TellOk st j lease (nvCode f st.regs l) (nvCert f st.regs):=by
 obtain⟨hji,rfl⟩:=List.getElem?_eq_some_iff.1 hf
 exact⟨hji,hj,hl,rfl,(nvCode_ok hs h3 h8 l).1,(nvCode_ok hs h3 h8 l).2,by have:=hs.b7;simp[nvCert];omega,nvPairs_fine hs h3 h8,nvTell_len hs h3 h8 j lease hj hl l,λh=>nv_verified hs h3 h8 l⟩
theorem layF_len (k:UInt8) (b:List UInt8) (hb:b.length≤65536):(layF k b).length≤65600:=by
 have h1:=leb_len10 (n:=b.length) (by omega)
 unfold layF
 simp[four]
 omega
theorem letter_len {f:Func} (hs:Small f) {regs:Nat} (h3:3≤regs) (h8:regs≤8) (j lease:Nat) (hj:j < 16) (hl:lease < 18446744073709551616) (l:List UInt8):(letterOf j lease (nvCode f regs l) (nvCert f regs)).length≤131072:=by
 have:=layF_len 3 _ (nvTell_len hs h3 h8 j lease hj hl l)
 unfold letterOf
 omega
theorem rec_len {f:Func} (hs:Small f) {regs:Nat} (h3:3≤regs) (h8:regs≤8) (j:Nat) (hj:j < 16) (l:List UInt8):(recB j (encCode (nvCode f regs l))).length≤31000:=by
 have h1:=nvCode_len hs h3 h8 l
 have h2:=leb_len10 (n:=j) (by omega)
 unfold recB
 rw[List.length_append]
 omega
theorem room_len {f:Func} (hs:Small f) {st:FSt} (hjs:st.js=[]) {regs:Nat} (h3:3≤regs) (h8:regs≤8) (j:Nat) (hj:j < 16) (l:List UInt8):roomFor st j (encCode (nvCode f regs l))≤262144:=by
 have h1:=rec_len hs h3 h8 j hj l
 have h2:=layF_len 1 _ (show (recB j (encCode (nvCode f regs l))).length≤65536 by omega)
 unfold roomFor
 rw[hjs]
 simp[recsOf,laid]
 omega
theorem code_job (w:World) (ow:Nat→Nat) (x:Nat) (st:FSt) (h:Hds) (lt:List (List (List UInt8))) (f:Farm w ow x st h lt) (jobs:List Ls.Job) (last:Nat) (u:FarmUp w ow st h jobs last) (j:Nat) (c:Code) (hj:st.js=[(j,encCode c)]) (hc:CodeOk c) (hcf:∀ b∈c.blocks,BlockFine b) (hl:(encCode c).length≤65536) :
  Calls Tryz.prog 17 #[.pointer (some ⟨x,0,none⟩),.int .i64 j] w λe w'=>Bel w w'∧∃ v,e=.returned (.tuple #[.agg #[.int .i64 c.params,.int .i64 c.regs,.int .i64 c.slots,v],.bool true])∧Kd.SK kBlock w' (λb=>w.heap.size≤b) c.blocks v:=by
 have e:st.js[0]'(by rw[hj];simp)=(j,encCode c):=by simp[hj]
 have:=code_some w ow x st h lt f jobs last u 0 (by rw[hj];simp) c hc hcf (by rw[e]) hl
 rw[e] at this
 exact this
theorem topTwo (r k x:Nat) (hr:r < 256) (hk:k < 256) (hx:x < 256) (ta tb tc:Nat) (fs:List SpecV) (okS:Nat→Prop) (vS:Value) (la lb:List UInt8) (A B:Option Addr) (ca cb:Nat) (hca:la.length≤ca) (hcam:ca≤maxLen) (hcb:lb.length≤cb) (hcbm:cb≤maxLen)
  (job lease:Nat) (hj:job < 256) (hle:lease < 256) (falls:Bool) (w:World) (ht:TabOk w) (hS:Kd.SK kSpec w okS fs vS) (hA:Bytes w A la) (hB:Bytes w B lb) :
  Calls Tryz.prog 4 #[.agg #[.int .u8 r,.int .u8 k,.int .u8 x,.int .u64 ta,.int .u64 tb,.int .u64 tc,vS],.slice A la.length ca,.slice B lb.length cb,.int .u8 job,.int .u8 lease,.bool falls] w λe w'=>e=.returned (.bool true)∧Bel w w':=by
 have HA:=Hm hA
 have HB:=Hm hB
 obtain⟨AS,cS,rfl,-,-⟩:=sk_form hS
 have HAw:=Hm (λ(wx:World) (hb:Bel w wx)=>awake_any wx (ht.bel hb))
 have HMk:=Hm (λ(wx:World) (hb:Bel w wx)=>made_farm r k x ta tb tc hr hk hx fs okS _ wx (sk_bel hS hb))
 have hso:StOk (cfgOf r k x ta tb tc (funcsOf fs)):=cfg_ok r k x ta tb tc fs 262144
 have hn:=funcs_len fs
 have hsm:=funcs_small fs
 obtain⟨st,hst⟩:∃ st,st=cfgOf r k x ta tb tc (funcsOf fs):=⟨_,rfl⟩
 rw[←hst] at HMk hso
 have hstf:st.fs=funcsOf fs:=by rw[hst];rfl
 have hjs:st.js=[]:=by rw[hst];rfl
 have hrg:3≤st.regs∧st.regs≤8:=by
  have:r % 6 < 6:=Nat.mod_lt _ (by omega)
  rw[hst];unfold cfgOf;dsimp only;omega
 have hbox:0 < st.box:=by rw[hst];unfold cfgOf;dsimp only;omega
 have hroom:st.room=262144:=by rw[hst];rfl
 rw[←hstf] at hn hsm
 clear hst hstf ht hS hA hB
 obtain⟨hn1,hn5⟩:=hn
 obtain⟨h3,h8⟩:=hrg
 obtain⟨j,hjj⟩:∃ j,j=job % st.fs.length:=⟨_,rfl⟩
 have hjl:j < st.fs.length:=by rw[hjj];exact Nat.mod_lt _ (by omega)
 obtain⟨f,hf⟩:∃ f,st.fs[j]?=some f:=⟨_,List.getElem?_eq_getElem hjl⟩
 have hsf:Small f:=by
  obtain⟨h1,rfl⟩:=List.getElem?_eq_some_iff.1 hf
  exact hsm _ (List.getElem_mem h1)
 have t0:(job:Int).tmod (st.fs.length:Int)=(j:Int):=by rw[hjj];exact(Int.natCast_emod _ _).symm
 have t1:(job:Int) % (st.fs.length:Int)=(j:Int):=by rw[hjj];exact(Int.natCast_emod _ _).symm
 have tw:IntKind.i64.wrap (j:Int)=(j:Int):=Go.IntWalk.i64_in _ (by omega)
 have hn0:¬(st.fs.length:Int)=0:=by omega
 have hn0':¬st.fs.length=0:=by omega
 obtain⟨lease2,hl2⟩:∃ l2,l2=(lease+1) % 256:=⟨_,rfl⟩
 have hle2:lease2 < 256:=by rw[hl2];exact Nat.mod_lt _ (by omega)
 have t2:((lease:Int)+1) % 256=(lease2:Int):=by rw[hl2];omega
 have HL1:=Hm (λ(wx:World) (okx:Nat→Prop) (lv:Value) hl (hA:Bytes wx A la)=>letter_any st.fs hsm hn1 hn5 st.regs h3 h8 job lease hj hle la A ca hca hcam f (by rw[←hjj];exact hf) okx lv wx hl hA)
 have HL2:=Hm (λ(wx:World) (okx:Nat→Prop) (lv:Value) hl (hB:Bytes wx B lb)=>letter_any st.fs hsm hn1 hn5 st.regs h3 h8 job lease2 hj hle2 lb B cb hcb hcbm f (by rw[←hjj];exact hf) okx lv wx hl hB)
 rw[←hjj] at HL1 HL2
 have hT1:=tellOk_nv hf hsf (by omega) h3 h8 lease (by omega) (la.take 200)
 have hT2:TellOk { st with js:=st.js++[(j,encCode (nvCode f st.regs (la.take 200)))] } j lease2 (nvCode f st.regs (lb.take 200)) (nvCert f st.regs):=tellOk_nv (st:={ st with js:=st.js++[(j,encCode (nvCode f st.regs (la.take 200)))] }) hf hsf (by omega) h3 h8 lease2 (by omega) (lb.take 200)
 have hln1:=letter_len hsf h3 h8 j lease (by omega) (by omega) (la.take 200)
 have hln2:=letter_len hsf h3 h8 j lease2 (by omega) (by omega) (lb.take 200)
 have hrec:=rec_len hsf h3 h8 j (by omega) (la.take 200)
 have hrm:=room_len (st:=st) hsf hjs h3 h8 j (by omega) (la.take 200)
 have hcl:=nvCode_len hsf h3 h8 (la.take 200)
 have hcok:=nvCode_ok hsf h3 h8 (la.take 200)
 unfold LetPost at HL1 HL2
 generalize nvCode f st.regs (la.take 200)=C1 at *
 generalize nvCode f st.regs (lb.take 200)=C2 at *
 generalize nvCert f st.regs=cert at *
 obtain⟨st2,hst2⟩:∃ st2,st2=({ st with js:=st.js++[(j,encCode C1)] }:FSt):=⟨_,rfl⟩
 have hs2:st2.js=[(j,encCode C1)]∧st2.fs=st.fs∧st2.workers=st.workers∧st2.box=st.box:=by rw[hst2,hjs];exact⟨rfl,rfl,rfl,rfl⟩
 have hso2:StOk st2:=by rw[hst2];exact⟨hso.fs1,hso.fs16,hso.tl,hso.tw,hso.tm,hso.twm,hso.wk,hso.now⟩
 have hjk:JsOk st2:=by
  refine⟨?_,?_,?_,?_⟩<;>rw[hs2.1]
  ·simp
  ·intro p hp;simp at hp;subst hp;exact⟨by dsimp only;omega,by dsimp only;omega⟩
  ·simp
  ·intro p hp;simp at hp;subst hp;rw[hs2.2.1];exact hjl
 rw[←hst2] at hT2
 have hw3:st.workers≤3:=hso.wk
 have HLen:=Hm (And.intro hln1 (And.intro hln2 (And.intro hrec (And.intro hrm hcl))))
 have HTl:=Hm (And.intro hT1 hT2)
 have HCk:=Hm hcok
 have HSt:=Hm (And.intro hso (And.intro hso2 (And.intro hjk (And.intro hs2 (And.intro hst2 (And.intro hjs (And.intro hw3 (And.intro hbox hroom))))))))
 have hn16:C1.blocks.length≤16:=hcok.1.n16
 clear hf hsf hsm hln1 hln2 hrec hrm hcl hcok hT1 hT2 hso hso2 hjk hs2 hst2 hjs hw3 hbox hroom hjj hl2
 go_enter Tryz.func4,Tryz.ntmps4
 go_wp2_with fail
 refine(HAw.o _ (bA (bR _) _)).mono ?_
 rintro e W1 ⟨rfl,hb1⟩
 have HB1:=Hm (bUA hb1)
 have hs1:=bHeap hb1 (hnew (w:=w) (o:=.cells ([.int .u8 r,.int .u8 k,.int .u8 x,.int .u64 ta,.int .u64 tb,.int .u64 tc,.slice AS fs.length cS]:List Value).toArray 27) rfl)
 obtain⟨s0,s1,s2,s3,s4,s5,s6⟩:=cC7 hs1
 have hsz:=hlt hs1
 clear hb1 hs1 HAw
 go_wp2_with fail
 refine(HMk.o W1 HB1.o).mono ?_
 unfold MadeFarm
 rintro e W2 ⟨xp,ow,h,lv,rfl,hb2,how,f2,u2,hsk⟩
 obtain⟨Al,cl,rfl,-,-⟩:=sk_form hsk
 have HB2:=Hm (And.intro hb2 (And.intro how (And.intro f2 (And.intro u2 hsk))))
 clear hb2 how f2 u2 hsk s0 s1 s2 s3 s4 s5 s6 hsz HMk
 unfold confV
 go_wp2_with fail
 have hbc:Bel W2 (W2.alloc (.cells #[.int .i64 st.regs,.int .i64 st.workers,.int .u64 st.t.lease,.int .u64 st.t.wait,.int .u64 st.t.most,.int .i64 st.room,.int .i64 st.box] 33)):=bA (bR _) _
 have hc0:(W2.alloc (.cells #[.int .i64 st.regs,.int .i64 st.workers,.int .u64 st.t.lease,.int .u64 st.t.wait,.int .u64 st.t.most,.int .i64 st.room,.int .i64 st.box] 33)).heap[W2.heap.size]?=some (.cells ([.int .i64 st.regs,.int .i64 st.workers,.int .u64 st.t.lease,.int .u64 st.t.wait,.int .u64 st.t.most,.int .i64 st.room,.int .i64 st.box]:List Value).toArray 33 (0,0)):=hnew rfl
 generalize W2.alloc (.cells #[.int .i64 st.regs,.int .i64 st.workers,.int .u64 st.t.lease,.int .u64 st.t.wait,.int .u64 st.t.most,.int .i64 st.room,.int .i64 st.box] 33)=W3 at hbc hc0⊢
 refine(HL1.o W3 _ _ (sk_bel HB2.o.2.2.2.2 hbc) (HA.o.below (bT (bT HB1.o HB2.o.1) hbc))).mono ?_
 rintro e W4 ⟨hb4,V1,rfl,A1,c1,rfl,k1,k2,k3⟩
 have HC4:=Hm (bHeap hb4 hc0)
 have HW4:=Hm (And.intro (bT hbc hb4) (And.intro k1 (And.intro k2 (λ(a:Addr) (ha:A1=some a)=>(show W2.heap.size≤a.block from by have:=k3 a ha;have:=hbc.size;omega)))))
 have c0:W4.cell? ⟨W2.heap.size,0,none⟩=some (.int .i64 st.regs):=cell_at HC4.o
 have hcz:=hlt HC4.o
 clear hbc hc0 hb4 k1 k2 k3 HL1
 go_wp2_with fail
 refine(HL2.o W4 _ _ (sk_bel HB2.o.2.2.2.2 HW4.o.1) (HB.o.below (bT (bT HB1.o HB2.o.1) HW4.o.1))).mono ?_
 rintro e W5 ⟨hb5,V2,rfl,A2,c2,rfl,k1,k2,k3⟩
 have HW5:=Hm (And.intro (bT HW4.o.1 hb5) (And.intro (HW4.o.2.1.below hb5) (And.intro k1 (And.intro k2 (λ(a:Addr) (ha:A2=some a)=>(show W2.heap.size≤a.block from by have:=k3 a ha;have:=HW4.o.1.size;omega))))))
 clear hb5 k1 k2 k3 HL2 c0 hcz HC4
 go_wp2_with fail
 have F5:=HB2.o.2.2.1.bel HW5.o.1
 have U5:=HB2.o.2.2.2.1.bel HW5.o.1
 refine(send_up W5 ow xp st h F5 HSt.o.2.2.2.2.2.2.1 HSt.o.2.2.2.2.2.2.2.1 _ 0 U5 (letterOf j lease C1 cert) A1 c1 HW5.o.2.1 HLen.o.1 HW4.o.2.2.1).mono ?_
 rintro e W6 ⟨rfl,h6,t6,f6,u6⟩
 have HF6:=Hm (And.intro t6 (And.intro f6 u6))
 clear F5 U5 t6 f6 u6
 go_wp2_with fail
 refine(take_up W6 ow xp st h6 j lease C1 cert HF6.o.2.1 HSt.o.2.2.2.2.2.2.1 _ 0 HF6.o.2.2 HTl.o.1 (by rw[HSt.o.2.2.2.2.2.1];simp) (by have:=HLen.o.2.2.1;omega) (by rw[HSt.o.2.2.2.2.2.2.2.2];exact HLen.o.2.2.2.1) (by rw[HSt.o.2.2.2.2.2.1];simp) (by rw[HSt.o.2.2.2.2.2.1];simp)).mono ?_
 rintro e W7 ⟨rfl,ow7,h7,jobs7,t7,f7,u7⟩
 rw[←HSt.o.2.2.2.2.1] at f7 u7
 have f7':Farm W7 ow7 xp st2 h7 (List.replicate (st2.workers+1) []):=by rw[HSt.o.2.2.2.1.2.2.1] at f7⊢;exact f7
 have HT7:=Hm (HF6.o.1.coarse.any t7)
 have HF7:=Hm (And.intro f7' u7)
 clear t7 f7 u7 f7' HF6
 go_wp2_with fail
 refine(code_job W7 ow7 xp st2 h7 _ HF7.o.1 jobs7 0 HF7.o.2 j C1 HSt.o.2.2.2.1.1 HCk.o.1 HCk.o.2 (by have:=HLen.o.2.2.2.2;omega)).mono ?_
 rintro e W8 ⟨hb8,v8,rfl,hs8⟩
 obtain⟨Av8,cv8,rfl,-,-⟩:=sk_form hs8
 have HS8:=Hm (And.intro hb8 hs8)
 clear hb8 hs8
 go_wp2_with fail
 have hb9:Bel W8 (W8.alloc (.cells #[.int .i64 C1.params,.int .i64 C1.regs,.int .i64 C1.slots,.slice Av8 C1.blocks.length cv8] 59)):=bA (bR _) _
 have hh9:(W8.alloc (.cells #[.int .i64 C1.params,.int .i64 C1.regs,.int .i64 C1.slots,.slice Av8 C1.blocks.length cv8] 59)).heap[W8.heap.size]?=some (.cells ([.int .i64 C1.params,.int .i64 C1.regs,.int .i64 C1.slots,.slice Av8 C1.blocks.length cv8]:List Value).toArray 59 (0,0)):=hnew rfl
 obtain⟨wb,hwb⟩:∃ wb,W8.heap.size=wb:=⟨_,rfl⟩
 have hwb7:W7.heap.size≤wb:=by rw[←hwb];exact HS8.o.1.size
 rw[hwb] at hh9
 generalize W8.alloc (.cells #[.int .i64 C1.params,.int .i64 C1.regs,.int .i64 C1.slots,.slice Av8 C1.blocks.length cv8] 59)=W9 at hb9 hh9⊢
 refine(file_bytes W9 ow7 xp st2 h7 _ (HF7.o.1.bel (bT HS8.o.1 hb9))).mono ?_
 rintro e W10 ⟨v10,rfl,hb10,ho10⟩
 obtain⟨A10,c10,rfl,hr10,-⟩:=own_row ho10
 have hB10:Bel W7 W10:=bT (bT HS8.o.1 hb9) hb10
 have HW10:=Hm (And.intro hB10 (And.intro (bHeap hb10 hh9) (And.intro hwb7 (sk_bel HS8.o.2 (bT hb9 hb10)))))
 have hstr:=strOf hr10 c10
 obtain⟨LF,hLF⟩:∃ LF,LF=laid (recsOf st2.js):=⟨_,rfl⟩
 rw[←hLF] at hstr⊢
 have HLF:=Hm hLF
 clear hb9 hh9 hb10 ho10 hr10 hB10 HS8 hLF hwb7
 have F10:=HF7.o.1.bel HW10.o.1
 have U10:=HF7.o.2.bel HW10.o.1
 have b2:Bytes W10 A2 (letterOf j lease2 C2 cert):=by
  have h0:∀ b,W2.heap.size≤b→ow b=0:=HB2.o.2.2.1.new
  exact(HT7.o.row HW5.o.2.2.1 (λa ha=>h0 _ (HW5.o.2.2.2.2 a ha))).below HW10.o.1
 have hA2z:∀ a,A2=some a→ow7 a.block=0:=λa ha=>by
  have h0:∀ b,W2.heap.size≤b→ow b=0:=HB2.o.2.2.1.new
  have hpos:0 < (letterOf j lease2 C2 cert).length:=by unfold letterOf layF;simp
  have hlt2:=row_lt HW5.o.2.2.1 (by simpa using hpos) a ha
  rw[HT7.o.old _ hlt2]
  exact h0 _ (HW5.o.2.2.2.2 a ha)
 have sk10:Kd.SK kBlock W10 (λb=>ow7 b=0) C1.blocks (.slice Av8 C1.blocks.length cv8):=HW10.o.2.2.2.stay (Stays.weaken (λb hb=>HF7.o.1.new b hb))
 have wb0:ow7 wb=0:=HF7.o.1.new _ HW10.o.2.2.1
 have hO10:Only w W10 (λb=>ow b≠0):=oB ((Only.bel (F:=λb=>ow b≠0) (bT (bT HB1.o HB2.o.1) HW5.o.1)).trans HT7.o.only (λb hb e=>e)) HW10.o.1
 have how7:∀ b,b < w.heap.size→ow7 b=ow b:=λb hb=>HT7.o.old b (by have:=HB1.o.size;have:=HB2.o.1.size;have:=HW5.o.1.size;omega)
 have how0:∀ b,b < w.heap.size→ow b=0:=λb hb=>HB2.o.2.1 b (by have:=HB1.o.size;omega)
 have HX:=Hm (And.intro b2 (And.intro hA2z (And.intro sk10 (And.intro wb0 (And.intro hO10 (And.intro how7 (And.intro how0 (And.intro HW10.o.2.1 (And.intro HLen.o.2.1 HW5.o.2.2.2.1)))))))))
 have HY:=Hm (And.intro F10 U10)
 clear F10 U10 b2 hA2z sk10 wb0 hO10 how7 how0 HW10 HF7 HT7 HW5 HW4 HB2 HB1 HA HB
 cases falls with
 |false =>
  have hT:Turn W10 W10 ow7 ow7 (λn=>n≠0):=⟨Only.refl _ _,λ_ _=>rfl,λh=>h rfl⟩
  have FK:=HY.o.1
  have UK:=HY.o.2
  go_wp2_with fail
  clear hstr
  have HT:=Hm hT
  have hq2:=HT.o.row HX.o.1 HX.o.2.1
  refine(send_up W10 ow7 xp st2 h7 FK (by rw[HSt.o.2.2.2.1.2.2.1];exact HSt.o.2.2.2.2.2.2.1) (by rw[HSt.o.2.2.2.1.2.2.2];exact HSt.o.2.2.2.2.2.2.2.1) jobs7 0 UK (letterOf j lease2 C2 cert) A2 c2 hq2 HX.o.2.2.2.2.2.2.2.2.1 HX.o.2.2.2.2.2.2.2.2.2).mono ?_
  rintro e Y1 ⟨rfl,g1,r1,p1,q1⟩
  have HP1:=Hm (And.intro r1 (And.intro p1 q1))
  clear r1 p1 q1 hq2 FK UK hT
  go_wp2_with fail
  refine(take_again Y1 ow7 xp st2 g1 j lease2 C2 cert HP1.o.2.1 (by rw[HSt.o.2.2.2.1.2.2.1];exact HSt.o.2.2.2.2.2.2.1) jobs7 0 HP1.o.2.2 HTl.o.2 (by rw[HSt.o.2.2.2.1.1];simp)).mono ?_
  rintro e Y2 ⟨rfl,ow9,g2,jobs9,r2,p2,q2⟩
  have HP2:=Hm (And.intro ((HT.o.any HP1.o.1.coarse).any r2) (And.intro p2 q2))
  clear r2 p2 q2 HP1 HT
  go_wp2_with fail
  refine(code_job Y2 ow9 xp st2 g2 _ HP2.o.2.1 jobs9 0 HP2.o.2.2 j C1 HSt.o.2.2.2.1.1 HCk.o.1 HCk.o.2 (by have:=HLen.o.2.2.2.2;omega)).mono ?_
  rintro e Y3 ⟨hb3,v3,rfl,hs3⟩
  obtain⟨Av3,cv3,rfl,-,-⟩:=sk_form hs3
  have HS3:=Hm (And.intro hb3 hs3)
  have hwh:=bHeap hb3 (HP2.o.1.heap HX.o.2.2.2.2.2.2.2.1 (λe=>e HX.o.2.2.2.1))
  obtain⟨w0,w1,w2,w3⟩:=cC4 hwh
  have hwz:=hlt hwh
  have hk8:=sk_bel (HX.o.2.2.1.stay HP2.o.1.stays) hb3
  have HSm:=Hm (λ(wx:World) (hx:Bel Y3 wx)=>sameCodes_ok C1 hn16 (λb hb=>⟨by have:=(HCk.o.2 b hb).len;omega,λi hi=>by have:=((HCk.o.2 b hb).ins i hi).len;omega⟩) _ _ _ _ wx (sk_bel hk8 hx) (sk_bel hs3 hx))
  clear hb3 hs3 hwh hk8
  go_wp2_with fail
  have hb4:Bel Y3 (Y3.alloc (.cells #[.int .i64 C1.params,.int .i64 C1.regs,.int .i64 C1.slots,.slice Av3 C1.blocks.length cv3] 59)):=bA (bR _) _
  refine(HSm.o _ hb4).mono ?_
  rintro e Y5 ⟨rfl,hb5⟩
  have HB5:=Hm (bT HS3.o.1 (bT hb4 hb5))
  clear hb4 hb5 w0 w1 w2 w3 hwz HSm
  go_wp2_with fail
  refine(file_bytes Y5 ow9 xp st2 g2 _ (HP2.o.2.1.bel HB5.o)).mono ?_
  rintro e Y6 ⟨v6,rfl,hb6,ho6⟩
  obtain⟨A6,c6,rfl,hr6,-⟩:=own_row ho6
  have hstr:=strOf hr6 c6
  rw[←HLF.o] at hstr⊢
  have HB6:=Hm (bT HB5.o hb6)
  clear hb6 ho6 hr6
  go_wp2_with fail
  go_ret
  refine⟨by simp,(Only.toBel (F:=λb=>ow b≠0) (oB ((HX.o.2.2.2.2.1).trans HP2.o.1.only (λb hb e=>by rw[HX.o.2.2.2.2.2.1 b hb] at e;exact e)) HB6.o) (λb hb e=>e (HX.o.2.2.2.2.2.2.1 b hb)))⟩
 |true =>
  go_wp2_with fail
  clear hstr
  refine(fall_up W10 ow7 xp st2 h7 HY.o.1 jobs7 0 HY.o.2).mono ?_
  rintro e W11 ⟨rfl,h11,t11,f11,e1,e2⟩
  have HF11:=Hm (And.intro t11 (And.intro f11 (And.intro e1 e2)))
  clear t11 f11 e1 e2
  go_wp2_with fail
  refine(rise_up W11 ow7 xp st2 h11 HF11.o.2.1 HF11.o.2.2.1 HF11.o.2.2.2 HSt.o.2.2.1 HSt.o.2.1).mono ?_
  rintro e W12 ⟨rfl,ow12,h12,jobs12,t12,f12,u12⟩
  have hT:=HF11.o.1.any t12
  have FK:=f12
  have UK:=u12
  clear t12 f12 u12 HF11
  go_wp2_with fail
  have HT:=Hm hT
  have hq2:=HT.o.row HX.o.1 HX.o.2.1
  refine(send_up W12 ow12 xp st2 h12 FK (by rw[HSt.o.2.2.2.1.2.2.1];exact HSt.o.2.2.2.2.2.2.1) (by rw[HSt.o.2.2.2.1.2.2.2];exact HSt.o.2.2.2.2.2.2.2.1) jobs12 0 UK (letterOf j lease2 C2 cert) A2 c2 hq2 HX.o.2.2.2.2.2.2.2.2.1 HX.o.2.2.2.2.2.2.2.2.2).mono ?_
  rintro e Y1 ⟨rfl,g1,r1,p1,q1⟩
  have HP1:=Hm (And.intro r1 (And.intro p1 q1))
  clear r1 p1 q1 hq2 FK UK hT
  go_wp2_with fail
  refine(take_again Y1 ow12 xp st2 g1 j lease2 C2 cert HP1.o.2.1 (by rw[HSt.o.2.2.2.1.2.2.1];exact HSt.o.2.2.2.2.2.2.1) jobs12 0 HP1.o.2.2 HTl.o.2 (by rw[HSt.o.2.2.2.1.1];simp)).mono ?_
  rintro e Y2 ⟨rfl,ow9,g2,jobs9,r2,p2,q2⟩
  have HP2:=Hm (And.intro ((HT.o.any HP1.o.1.coarse).any r2) (And.intro p2 q2))
  clear r2 p2 q2 HP1 HT
  go_wp2_with fail
  refine(code_job Y2 ow9 xp st2 g2 _ HP2.o.2.1 jobs9 0 HP2.o.2.2 j C1 HSt.o.2.2.2.1.1 HCk.o.1 HCk.o.2 (by have:=HLen.o.2.2.2.2;omega)).mono ?_
  rintro e Y3 ⟨hb3,v3,rfl,hs3⟩
  obtain⟨Av3,cv3,rfl,-,-⟩:=sk_form hs3
  have HS3:=Hm (And.intro hb3 hs3)
  have hwh:=bHeap hb3 (HP2.o.1.heap HX.o.2.2.2.2.2.2.2.1 (λe=>e HX.o.2.2.2.1))
  obtain⟨w0,w1,w2,w3⟩:=cC4 hwh
  have hwz:=hlt hwh
  have hk8:=sk_bel (HX.o.2.2.1.stay HP2.o.1.stays) hb3
  have HSm:=Hm (λ(wx:World) (hx:Bel Y3 wx)=>sameCodes_ok C1 hn16 (λb hb=>⟨by have:=(HCk.o.2 b hb).len;omega,λi hi=>by have:=((HCk.o.2 b hb).ins i hi).len;omega⟩) _ _ _ _ wx (sk_bel hk8 hx) (sk_bel hs3 hx))
  clear hb3 hs3 hwh hk8
  go_wp2_with fail
  have hb4:Bel Y3 (Y3.alloc (.cells #[.int .i64 C1.params,.int .i64 C1.regs,.int .i64 C1.slots,.slice Av3 C1.blocks.length cv3] 59)):=bA (bR _) _
  refine(HSm.o _ hb4).mono ?_
  rintro e Y5 ⟨rfl,hb5⟩
  have HB5:=Hm (bT HS3.o.1 (bT hb4 hb5))
  clear hb4 hb5 w0 w1 w2 w3 hwz HSm
  go_wp2_with fail
  refine(file_bytes Y5 ow9 xp st2 g2 _ (HP2.o.2.1.bel HB5.o)).mono ?_
  rintro e Y6 ⟨v6,rfl,hb6,ho6⟩
  obtain⟨A6,c6,rfl,hr6,-⟩:=own_row ho6
  have hstr:=strOf hr6 c6
  rw[←HLF.o] at hstr⊢
  have HB6:=Hm (bT HB5.o hb6)
  clear hb6 ho6 hr6
  go_wp2_with fail
  go_ret
  refine⟨by simp,(Only.toBel (F:=λb=>ow b≠0) (oB ((HX.o.2.2.2.2.1).trans HP2.o.1.only (λb hb e=>by rw[HX.o.2.2.2.2.2.1 b hb] at e;exact e)) HB6.o) (λb hb e=>e (HX.o.2.2.2.2.2.2.1 b hb)))⟩
structure Sl (α:Type) where
 a:Option Addr
 c:Nat
 l:List α
inductive Ty where
 |bool
 |int (k:IntKind)
 |slice (e:Ty)
 |unit
 |pair (a b:Ty)
namespace Ty
def size:Ty→Nat
 |.bool=>1
 |.int _=>1
 |.slice _=>1
 |.unit=>0
 |.pair a b=>a.size+b.size
@[reducible] def El:Ty→Type
 |.bool=>Bool
 |.int _=>Int
 |.slice e=>Sl e.El
 |.unit=>Unit
 |.pair a b=>a.El × b.El
def cells:(t:Ty)→t.El→List Value
 |.bool,b=>[.bool b]
 |.int k,n=>[.int k n]
 |.slice _,s=>[.slice s.a s.l.length s.c]
 |.unit,_=>[]
 |.pair a b,x=>a.cells x.1++b.cells x.2
def Rd (w:World):(t:Ty)→t.El→Prop
 |.bool,_=>True
 |.int k,n=>(Lit.int k n).wf=true
 |.slice e,s=>s.l.length≤s.c∧s.c≤maxLen∧Row w s.a (s.l.flatMap e.cells)∧∀ x∈s.l,e.Rd w x
 |.unit,_=>True
 |.pair a b,x=>a.Rd w x.1∧b.Rd w x.2
mutual
def Fits (P:Program):Ty→TypeId→Prop
 |.bool,t=>P.underlying t=some .bool
 |.int k,t=>P.underlying t=some (.int k)
 |.slice e,t=>∃ u,P.underlying t=some (.slice u)∧P.cellsOf u=e.size∧Fits P e u
 |.unit,t=>∃ fs,P.underlying t=some (.struct fs)∧P.cellsOf t=0∧fs.toList=[]
 |.pair a b,t=>∃ fs,P.underlying t=some (.struct fs)∧P.cellsOf t=a.size+b.size∧∃ f rest,fs.toList=f :: rest∧f.offset=0∧P.cellsOf f.type=a.size∧Fits P a f.type∧FitsL P b rest a.size
def FitsL (P:Program):Ty→List Field→Nat→Prop
 |.unit,fs,_=>fs=[]
 |.pair a b,fs,o=>∃ f rest,fs=f :: rest∧f.offset=o∧P.cellsOf f.type=a.size∧Fits P a f.type∧FitsL P b rest (o+a.size)
 |.bool,_,_=>False
 |.int _,_,_=>False
 |.slice _,_,_=>False
end
theorem cells_length:∀ (t:Ty) (x:t.El),(t.cells x).length=t.size
 |.bool,_=>rfl
 |.int _,_=>rfl
 |.slice _,_=>rfl
 |.unit,_=>rfl
 |.pair a b,x=>by simp[cells,size,cells_length a,cells_length b]
theorem flat_length (e:Ty) (ys:List e.El):(ys.flatMap e.cells).length=ys.length*e.size:=by
 induction ys with
 |nil=>simp
 |cons y ys ih=>rw[List.flatMap_cons,List.length_append,ih,cells_length,List.length_cons,Nat.add_mul,Nat.one_mul,Nat.add_comm]
theorem flat_one {α:Type} (f:α→List Value) (g:α→Value) (h:∀ x,f x=[g x]) (l:List α):l.flatMap f=l.map g:=by
 induction l with
 |nil=>rfl
 |cons x l ih=>rw[List.flatMap_cons,ih,h];rfl
theorem flat_get (e:Ty) (ys:List e.El) (i k:Nat) (hk:k < e.size):(ys.flatMap e.cells)[i*e.size+k]?=(ys[i]?).bind λy=>(e.cells y)[k]?:=by
 induction ys generalizing i with
 |nil=>simp
 |cons y ys ih =>
  rw[List.flatMap_cons]
  cases i with
  |zero =>
   rw[Nat.zero_mul,Nat.zero_add,List.getElem?_append_left (by rw[cells_length];exact hk)]
   simp
  |succ i =>
   rw[Nat.add_mul,Nat.one_mul,List.getElem?_append_right (by rw[cells_length];omega),cells_length,show i*e.size+e.size+k-e.size=i*e.size+k from by omega,ih]
   simp
section
variable {H:Type} {enc:TypeId × Value→H} {P:Program} {w:World}
theorem mapM_range_cells {n:Nat} {a:Addr} {cs:List Value} (h:(List.range n).mapM (λi=>w.cell? (a.add i))=some cs):cs.length=n∧∀ i (hi:i < cs.length),w.cell? (a.add i)=some cs[i]:=by
 have hl:=mapM_some_length h
 rw[List.length_range] at hl
 refine⟨hl,λi hi=>?_⟩
 have:=mapM_some_get h i i (by rw[List.getElem?_range (by omega)])
 rw[this]
 exact List.getElem?_eq_getElem hi
theorem spot_none {a:Addr} {v:Value} (h:w.cell? a=some v):a.spot=none:=by
 unfold World.cell? at h
 split at h
 ·cases hsp:a.spot with
  |none=>rfl
  |some s=>rw[hsp] at h;simp at h
 ·cases h
theorem add_plain {a:Addr} (hs:a.spot=none) (n:Nat):a.add n=⟨a.block,a.off+n,none⟩:=by
 unfold Addr.add
 split
 ·next e=>subst e;cases a;simp_all
 ·rfl
mutual
theorem rd_of_trod:∀ (ty:Ty) (fuel:Nat) (t:TypeId) (cs:List Value) (x:DataW H × List MemPlace),Fits P ty t→DataW.trod enc P w 0 (λ_=>true) true fuel t cs=some x→∃ e:ty.El,cs=ty.cells e∧ty.Rd w e
 |.bool,fuel,t,cs,x,hf,h=>by
  obtain⟨b,e,_⟩:=DataW.trod_bool (show P.underlying t=some .bool from hf) h
  exact⟨b,e,trivial⟩
 |.int k,fuel,t,cs,x,hf,h=>by
  obtain⟨n,e,_,hw⟩:=DataW.trod_int (show P.underlying t=some (.int k) from hf) h
  exact⟨n,e,hw⟩
 |.slice e,fuel,t,cs,x,hf,h=>by
  obtain⟨u,hu,hcu,hfe⟩:=hf
  rcases Deep.open_slice hu h with ⟨rfl,_⟩|⟨a,len,cap,m,n,D,Pl,rfl,_,hl,hm,hmm,_,hel⟩
  ·exact⟨⟨none,0,[]⟩,rfl,Nat.le_refl _,Nat.zero_le _,Row.nil _ _,λx hx=>by cases hx⟩
  ·have hm':m=cap:=by simpa using hmm
   have hone:∀ i,i < len→∃ y:e.El,(∀ j (hj:j < (e.cells y).length),w.cell? ((a.add (i*e.size)).add j)=some (e.cells y)[j])∧e.Rd w y:=by
    intro i hi
    obtain⟨cs',h1,h2⟩:=hel i (by omega)
    obtain⟨y,rfl,hy⟩:=rd_of_trod e n u cs' _ hfe h2
    unfold World.cells? at h1
    rw[if_pos (Nat.zero_le _),hcu] at h1
    obtain⟨_,h3⟩:=mapM_range_cells h1
    exact⟨y,h3,hy⟩
   obtain⟨ys,hyl,hys⟩:∃ ys:List e.El,ys.length=len∧∀ i (hi:i < ys.length),(∀ j (hj:j < (e.cells ys[i]).length),w.cell? ((a.add (i*e.size)).add j)=some (e.cells ys[i])[j])∧e.Rd w ys[i]:=by
    refine⟨(List.finRange len).map λi=>Classical.choose (hone i.1 i.2),by simp,λi hi=>?_⟩
    have hi':i < len:=by simpa using hi
    simpa using Classical.choose_spec (hone i hi')
   refine⟨⟨some a,cap,ys⟩,by simp[cells,hyl],by rw[hyl];exact hl,hm,?_,?_⟩
   ·intro j hj
    have hlen:=flat_length e ys
    have hj0:j < (ys.flatMap e.cells).length:=hj
    replace hj:j < ys.length*e.size:=by rw[←hlen];exact hj0
    have hsz:0 < e.size:=by
     rcases Nat.eq_zero_or_pos e.size with h0|h0
     ·rw[h0] at hj;simp at hj
     ·exact h0
    have hq:j / e.size < ys.length:=by rw[Nat.div_lt_iff_lt_mul hsz];exact hj
    have hr:j % e.size < (e.cells ys[j / e.size]).length:=by rw[cells_length];exact Nat.mod_lt _ hsz
    have hcell:=(hys _ hq).1 _ hr
    have hget:(ys.flatMap e.cells)[j]=(e.cells ys[j / e.size])[j % e.size]:=by
     have h1:=flat_get e ys (j / e.size) (j % e.size) (Nat.mod_lt _ hsz)
     rw[show j / e.size*e.size+j % e.size=j from Nat.div_add_mod' j e.size,List.getElem?_eq_getElem hj0,List.getElem?_eq_getElem hq,Option.bind_some,List.getElem?_eq_getElem hr] at h1
     exact Option.some.inj h1
    rw[Deep.add_add,show j / e.size*e.size+j % e.size=j from Nat.div_add_mod' j e.size] at hcell
    have hs0:a.spot=none:=by
     have hc0:=(hys 0 (Nat.lt_of_le_of_lt (Nat.zero_le _) hq)).1 0 (by rw[cells_length];exact hsz)
     rw[Nat.zero_mul] at hc0
     have:(a.add 0).add 0=a:=rfl
     rw[this] at hc0
     exact spot_none hc0
    rw[add_plain hs0] at hcell
    refine⟨a.block,a.off,by cases a;simp_all,?_⟩
    rw[hcell,hget]
   ·intro x hx
    obtain⟨i,hi,rfl⟩:=List.mem_iff_getElem.1 hx
    exact(hys i hi).2
 |.unit,fuel,t,cs,x,hf,h=>by
  obtain⟨fs,hu,hc,hfs⟩:=hf
  obtain⟨xs,n,_,_,hl,_⟩:=DataW.trod_struct hu h
  rw[hc] at hl
  exact⟨(),List.eq_nil_of_length_eq_zero hl,trivial⟩
 |.pair a b,fuel,t,cs,x,hf,h=>by
  obtain⟨fs,hu,hc,f,rest,hfs,ho,hca,hfa,hfb⟩:=hf
  obtain⟨xs,n,_,_,hl,hxl,hel⟩:=DataW.trod_struct hu h
  rw[hc] at hl
  have hget:∀ (i:Nat) (f':Field),(f :: rest)[i]?=some f'→∃ y,DataW.trod enc P w 0 (λ_=>true) true n f'.type ((cs.drop f'.offset).take (P.cellsOf f'.type))=some y:=by
   intro i f' hi
   have h1:fs[i]?=some f':=by rw[←Array.getElem?_toList,hfs];exact hi
   have h2:=hel i f' h1
   have h3:i < fs.size:=(Array.getElem?_eq_some_iff.1 h1).1
   rw[h2]
   exact⟨_,List.getElem?_eq_getElem (by omega)⟩
  obtain⟨y,hy⟩:=hget 0 f rfl
  rw[ho,hca,List.drop_zero] at hy
  obtain⟨ea,hea,hra⟩:=rd_of_trod a n f.type _ _ hfa hy
  obtain⟨eb,heb,hrb⟩:=rd_of_trodL b n rest a.size cs hfb (by omega) (λi f' hi=>hget (i+1) f' (by simpa using hi))
  refine⟨(ea,eb),?_,hra,hrb⟩
  show cs=a.cells ea++b.cells eb
  rw[←hea,←heb]
  exact(List.take_append_drop _ _).symm
theorem rd_of_trodL:∀ (ty:Ty) (n:Nat) (fs:List Field) (o:Nat) (cs:List Value),FitsL P ty fs o→cs.length=o+ty.size →
  (∀ (i:Nat) f,fs[i]?=some f→∃ y,DataW.trod enc P w 0 (λ_=>true) true n f.type ((cs.drop f.offset).take (P.cellsOf f.type))=some y)→∃ e:ty.El,cs.drop o=ty.cells e∧ty.Rd w e
 |.bool,_,_,_,_,hf,_,_=>hf.elim
 |.int _,_,_,_,_,hf,_,_=>hf.elim
 |.slice _,_,_,_,_,hf,_,_=>hf.elim
 |.unit,n,fs,o,cs,hf,hl,_=>⟨(),List.drop_eq_nil_of_le (by simp only[size] at hl;omega),trivial⟩
 |.pair a b,n,fs,o,cs,hf,hl,hget=>by
  obtain⟨f,rest,rfl,ho,hca,hfa,hfb⟩:=hf
  simp only[size] at hl
  obtain⟨y,hy⟩:=hget 0 f rfl
  rw[ho,hca] at hy
  obtain⟨ea,hea,hra⟩:=rd_of_trod a n f.type _ _ hfa hy
  obtain⟨eb,heb,hrb⟩:=rd_of_trodL b n rest (o+a.size) cs hfb (by omega) (λi f' hi=>hget (i+1) f' (by simpa using hi))
  refine⟨(ea,eb),?_,hra,hrb⟩
  show cs.drop o=a.cells ea++b.cells eb
  rw[←hea,←heb,←List.drop_drop]
  exact(List.take_append_drop _ _).symm
end
end
end Ty
theorem nat8 {n:Int} (h:(Lit.int .u8 n).wf=true):∃ m:Nat,n=m∧m < 256:=by
 have:=wf8.1 h
 exact⟨n.toNat,by omega,by omega⟩
theorem nat64' {n:Int} (h:(Lit.int .u64 n).wf=true):∃ m:Nat,n=m:=by
 simp[Lit.wf,IntKind.min,IntKind.max,IntKind.bits,IntKind.signed] at h
 exact⟨n.toNat,by omega⟩
def toByte (n:Int):UInt8:=UInt8.ofNat n.toNat
theorem toByteV {n:Int} (h:(Lit.int .u8 n).wf=true):byteV (toByte n)=.int .u8 n:=by
 have:=wf8.1 h
 unfold toByte
 rw[byteV_of _ (by omega)]
 congr 1
 omega
theorem bytes_of {w:World} {s:Sl Int} (h:Ty.Rd w (.slice (.int .u8)) s):∃ l:List UInt8,s.l.length=l.length∧l.length≤s.c∧s.c≤maxLen∧Bytes w s.a l:=by
 obtain⟨h1,h2,h3,h4⟩:=h
 refine⟨s.l.map toByte,by simp,by simpa using h1,h2,?_⟩
 unfold Bytes
 have e:(s.l.map toByte).map byteV=s.l.flatMap (Ty.cells (.int .u8)):=by
  rw[List.map_map,Ty.flat_one (Ty.cells (.int .u8)) (Value.int .u8) (λ_=>rfl) s.l]
  refine List.map_congr_left λn hn=>?_
  exact toByteV (h4 n hn)
 rw[e]
 exact h3
abbrev tySpec:Ty:=.pair (.int .u8) (.pair (.int .u8) (.pair (.int .u8) (.pair (.slice (.int .u8)) .unit)))
theorem spec_one {w:World} (x:Ty.El tySpec) (h:Ty.Rd w tySpec x):∃ s:SpecV,kSpec.K w (λ_=>True) s (Ty.cells tySpec x):=by
 obtain⟨a,b,c,sl,⟨⟩⟩:=x
 obtain⟨h1,h2,h3,h4,-⟩:=h
 obtain⟨a,rfl,ha⟩:=nat8 (n:=a) h1
 obtain⟨b,rfl,hb⟩:=nat8 (n:=b) h2
 obtain⟨c,rfl,hc⟩:=nat8 (n:=c) h3
 obtain⟨l,hl,hl2,hl3,hB⟩:=bytes_of (s:=sl) h4
 refine⟨⟨a,b,c,l⟩,[_],_,rfl,⟨rfl,h1⟩,[_],_,rfl,⟨rfl,h2⟩,[_],_,rfl,⟨rfl,h3⟩,.slice sl.a l.length sl.c,?_,sl.a,sl.c,l.map byteV,rfl,hl2,hl3,RowIn.of hB (λ_ _=>trivial),all_b8.2 rfl⟩
 show [Value.slice sl.a sl.l.length sl.c]++[]=_
 rw[hl]
 rfl
theorem specs_all {w:World}:∀ (l:List (Ty.El tySpec)),(∀ x∈l,Ty.Rd w tySpec x)→∃ fs:List SpecV,fs.length=l.length∧kSpec.All w (λ_=>True) fs (l.flatMap (Ty.cells tySpec))
 |[],_=>⟨[],rfl,rfl⟩
 |x :: r,h=>by
  obtain⟨s,hs⟩:=spec_one x (h x (by simp))
  obtain⟨fs,hl,ha⟩:=specs_all r (λy hy=>h y (by simp[hy]))
  exact⟨s :: fs,by simp[hl],_,_,rfl,hs,ha⟩
theorem specs_of {w:World} {s:Sl (Ty.El tySpec)} (h:Ty.Rd w (.slice tySpec) s):∃ fs:List SpecV,s.l.length=fs.length∧Kd.SK kSpec w (λ_=>True) fs (.slice s.a fs.length s.c):=by
 obtain⟨h1,h2,h3,h4⟩:=h
 obtain⟨fs,hl,ha⟩:=specs_all s.l h4
 exact⟨fs,hl.symm,s.a,s.c,_,rfl,by omega,h2,RowIn.of h3 (λ_ _=>trivial),ha⟩
end Go.Proofs.YtjkgligohegaeaaGreatDoor
