/- Lemmas of the row. -/
import Derived.Deep.CutRange
import Derived.Test.YtjkgligohegaeaaGreatDoorN30
set_option linter.all false
set_option maxRecDepth 20000
set_option maxHeartbeats 12800000
namespace Go.Proofs.YtjkgligohegaeaaGreatDoor
open Go.RowKit
def FullSt (w wx:World) (st:FSt) (p:Nat) (lv:Value):Prop :=
 Bel w wx∧w.heap.size≤p∧wx.heap[p]?=some (.cells #[.int .i64 st.regs,.int .i64 st.workers,.int .u64 st.t.lease,.int .u64 st.t.wait,.int .u64 st.t.most,.int .i64 st.room,.int .i64 st.box] 33 (0,0))∧∃ ok,Kd.SK kFunc wx ok st.fs lv∧∀ b,ok b→b < wx.heap.size→b≠p
structure FullRel (w wr:World) (sr:FSt) (x p:Nat) (lv:Value) (j:Nat) (ow:Nat→Nat) (h:Hds) (L:List (Nat × List UInt8)) (jobs:List Ls.Job):Prop where
 bel:Bel w wr
 zero:∀ b,b < w.heap.size→ow b=0
 farm:Farm wr ow x { sr with js:=L } h (List.replicate (sr.workers+1) [])
 up:FarmUp wr ow { sr with js:=L } h jobs 0
 conf:wr.heap[p]?=some (.cells #[.int .i64 sr.regs,.int .i64 sr.workers,.int .u64 sr.t.lease,.int .u64 sr.t.wait,.int .u64 sr.t.most,.int .i64 sr.room,.int .i64 sr.box] 33 (0,0))
 confz:ow p=0
 funcs:Kd.SK kFunc wr (λb=>ow b=0) sr.fs lv
 below:∀ q∈L,q.1 < j
 few:L.length≤j
theorem take_room (w:World) (ow:Nat→Nat) (x:Nat) (st:FSt) (h:Hds) (job lease:Nat) (c:Code) (cert:List (List PairV)) (f:Farm w ow x st h (List.replicate (st.workers+1) [] |>.set 0 [letterOf job lease c cert])) (hw3:st.workers≤3) (jobs:List Ls.Job) (last:Nat) (u:FarmUp w ow st h jobs last) (ht:TellOk st job lease c cert)
  (hlr:(recB job (encCode c)).length≤65536) (hup:∀ p∈st.js,p.1 < job) (hfew:st.js.length < 1000) :
  Calls Tryz.prog 11 #[.pointer (some ⟨x,0,none⟩),actV 3 0 false (.slice none 0 0) (.slice none 0 0)] w λe w'=>∃ (ev:Int) (L2:List (Nat × List UInt8)),e=.returned (.int .i64 ev)∧TookUp w ow x { st with js:=L2 } last w'∧((roomFor st job (encCode c)≤st.room∧ev=0∧L2=st.js++[(job,encCode c)])∨(st.room < roomFor st job (encCode c)∧ev=50∧L2=st.js)):=by
 have hd:job∉st.js.map (·.1):=λhm=>by
  obtain⟨p,hp,e⟩:=List.mem_map.1 hm
  have:=hup p hp
  omega
 by_cases hr:roomFor st job (encCode c)≤st.room
 ·refine(take_up w ow x st h job lease c cert f hw3 jobs last u ht hd hlr hr hup hfew).mono ?_
  rintro e w' ⟨rfl,t⟩
  exact⟨_,_,rfl,t,.inl ⟨hr,rfl,rfl⟩⟩
 ·refine(take_nospace w ow x st h job lease c cert f hw3 jobs last u ht hd hlr (by omega)).mono ?_
  rintro e w' ⟨rfl,t⟩
  exact⟨_,_,rfl,t,.inr ⟨by omega,rfl,rfl⟩⟩
theorem code_last (w:World) (ow:Nat→Nat) (x:Nat) (st:FSt) (h:Hds) (lt:List (List (List UInt8))) (f:Farm w ow x st h lt) (jobs:List Ls.Job) (last:Nat) (u:FarmUp w ow st h jobs last) (L:List (Nat × List UInt8)) (j:Nat) (c:Code) (hj:st.js=L++[(j,encCode c)]) (hc:CodeOk c) (hcf:∀ b∈c.blocks,BlockFine b) (hl:(encCode c).length≤65536) :
  Calls Tryz.prog 17 #[.pointer (some ⟨x,0,none⟩),.int .i64 j] w λe w'=>Bel w w'∧∃ v,e=.returned (.tuple #[.agg #[.int .i64 c.params,.int .i64 c.regs,.int .i64 c.slots,v],.bool true])∧Kd.SK kBlock w' (λb=>w.heap.size≤b) c.blocks v:=by
 have e:st.js[L.length]'(by rw[hj];simp)=(j,encCode c):=by simp[hj]
 have:=code_some w ow x st h lt f jobs last u L.length (by rw[hj];simp) c hc hcf (by rw[e]) hl
 rw[e] at this
 exact this
theorem full_next {w wr W5 W7 Y:World} {sr st:FSt} {x p:Nat} {lv:Value} {j:Nat} {ow ow7:Nat→Nat} {h h7:Hds} {L L2:List (Nat × List UInt8)} {jobs jobs7:List Ls.Job} (hR:FullRel w wr sr x p lv j ow h L jobs) (hb5:Bel wr W5) (t:Turn W5 W7 ow ow7 (λn=>n≠0)) (hst:st={ sr with js:=L })
  (f7:Farm W7 ow7 x { st with js:=L2 } h7 (List.replicate ({ st with js:=L2 }.workers+1) [])) (u7:FarmUp W7 ow7 { st with js:=L2 } h7 jobs7 0) (hb:Bel W7 Y) (hbl:∀ q∈L2,q.1 < j+1) (hfew:L2.length≤j+1):FullRel w Y sr x p lv (j+1) ow7 h7 L2 jobs7:=by
 subst hst
 have h1:=hR.bel.size
 have h2:=hb5.size
 have hO:=Only.toBel (F:=λb=>ow b≠0) (oB ((Only.bel (F:=λb=>ow b≠0) (bT hR.bel hb5)).trans t.only (λb hb e=>e)) hb) (λb hb e=>e (hR.zero b hb))
 exact⟨hO,λb hb'=>(t.old b (by omega)).trans (hR.zero b hb'),f7.bel hb,u7.bel hb,bHeap hb (t.heap (bHeap hb5 hR.conf) (λe=>e hR.confz)),(t.old p (hlt (bHeap hb5 hR.conf))).trans hR.confz,sk_bel ((sk_bel hR.funcs hb5).stay t.stays) hb,hbl,hfew⟩
theorem undef_no:Go.yielded.match_1 (λ_=>Option Bool) (some undef) (λb=>some b) (λ_=>none)=none:=rfl
structure LineS (P:Program) (ops:Array Oper) (Q:Exit→Act→World→Prop) (r:List Stp) (a:Act) (w:World):Prop where
 o:Line P ops Q r a w
theorem line_rs {P:Program} {ops:Array Oper} {Q:Exit→Act→World→Prop} {i:Nat} {r:List Stp} {a:Act} {w:World} {o:Oper} (ho:ops[i]?=some o)
  (h:∀ K:Act→Prop,(∀ a,LineS P ops Q r a w→K a)→if Region.wanted o (yielded ops a.tmps) then o.quiet P a (λx=>x=w) K else K (a.put o.dst undef)):LineS P ops Q (.rd i :: r) a w :=
 ⟨line_rd ho (λK hK=>h K (λa hl=>hK a hl.o))⟩
theorem lineS_eq {P:Program} {ops:Array Oper} {Q:Exit→Act→World→Prop} {r:List Stp} {a:Act} {w:World}:LineS P ops Q r a w=Line P ops Q r a w:=propext ⟨LineS.o,LineS.mk⟩
theorem line_hs {P:Program} {ops:Array Oper} {Q:Exit→Act→World→Prop} {i:Nat} {pend:List Nat} {r:List Stp} {a:Act} {w:World} {o:Oper} (ho:ops[i]?=some o)
  (h:wpList P ops (λe a' w'=>e=.normal∧a'.defers=a.defers∧Again P ops a' w' pend∧LineS P ops Q r a' w') [o] a w):LineS P ops Q (.hv i pend :: r) a w :=
 ⟨line_hv ho (by simpa only[lineS_eq] using h)⟩
theorem line_ns {P:Program} {ops:Array Oper} {Q:Exit→Act→World→Prop} {i:Nat} {pend:List Nat} {r:List Stp} {a:Act} {w:World} {o:Oper} (ho:ops[i]?=some o) (hn:Region.wanted o (yielded ops a.tmps)=false)
  (h:Again P ops (a.put o.dst undef) w pend∧LineS P ops Q r (a.put o.dst undef) w):LineS P ops Q (.hv i pend :: r) a w :=
 ⟨line_hv ho (by
  simp only[wpList]
  rw[if_neg (by simp[hn])]
  exact⟨trivial,by cases o.dst<;>rfl,h.1,h.2.o⟩)⟩
theorem topFull (r k x room:Nat) (hr:r < 256) (hk:k < 256) (hx:x < 256) (hrm:room < 65536) (ta tb tc:Nat) (fs:List SpecV) (okS:Nat→Prop) (vS:Value) (la:List UInt8) (A:Option Addr) (ca:Nat) (hca:la.length≤ca) (hcam:ca≤maxLen)
  (w:World) (ht:TabOk w) (hS:Kd.SK kSpec w okS fs vS) (hA:Bytes w A la) :
  Calls Tryz.prog 5 #[.agg #[.int .u8 r,.int .u8 k,.int .u8 x,.int .u64 ta,.int .u64 tb,.int .u64 tc,vS],.int .u16 room,.slice A la.length ca] w λe w'=>e=.returned (.bool true)∧Bel w w':=by
 have HA:=Hm hA
 obtain⟨AS,cS,rfl,-,-⟩:=sk_form hS
 have HAw:=Hm (λ(wx:World) (hb:Bel w wx)=>awake_any wx (ht.bel hb))
 have HCf:=Hm (λ(wx:World)=>config_any r k x ta tb tc hr hk hx (.slice AS fs.length cS) rfl (funcsOf fs) wx)
 have HFn:=Hm (λ(wx:World) (hb:Bel w wx)=>funcs_any r k x ta tb tc fs okS (.slice AS fs.length cS) wx (sk_bel hS hb))
 obtain⟨rm,hrme⟩:∃ rm,rm=room % 700:=⟨_,rfl⟩
 have hrm7:rm < 700:=by rw[hrme];exact Nat.mod_lt _ (by omega)
 have t0:(room:Int).tmod 700=(rm:Int):=by rw[hrme];rfl
 have t1:(room:Int) % 700=(rm:Int):=by rw[hrme];rfl
 clear hrme
 have hff:=funcs_fine fs
 have hcc:CfOk { cfgOf r k x ta tb tc (funcsOf fs) with room:=rm }:=cfg_conf r k x ta tb tc fs rm (by omega)
 have hso:StOk { cfgOf r k x ta tb tc (funcsOf fs) with room:=rm }:=cfg_ok r k x ta tb tc fs rm
 have hn:=funcs_len fs
 have hsm:=funcs_small fs
 unfold confV at HCf
 obtain⟨st,hst⟩:∃ st,st=cfgOf r k x ta tb tc (funcsOf fs):=⟨_,rfl⟩
 rw[←hst] at HCf hcc hso
 have hstf:st.fs=funcsOf fs:=by rw[hst];rfl
 have hjs:st.js=[]:=by rw[hst];rfl
 have hrg:3≤st.regs∧st.regs≤8:=by
  have:r % 6 < 6:=Nat.mod_lt _ (by omega)
  rw[hst];unfold cfgOf;dsimp only;omega
 have hbox:0 < st.box:=by rw[hst];unfold cfgOf;dsimp only;omega
 unfold FnsPost at HFn
 rw[←hstf] at hn hsm HFn hff
 clear hst hstf ht hS hA
 obtain⟨sr,hsr⟩:∃ sr:FSt,sr={ st with room:=rm }:=⟨_,rfl⟩
 rw[←hsr] at hcc hso
 have HSr:=Hm hsr
 have HSt:=Hm (And.intro hcc (And.intro hso (And.intro hff (And.intro hn (And.intro hsm (And.intro hjs (And.intro hrg hbox)))))))
 clear hsr hcc hso hff hn hsm hjs hrg hbox
 go_enter Tryz.func5,Tryz.ntmps5
 go_wp2_with fail
 refine(HAw.o _ (bA (bR _) _)).mono ?_
 rintro e W1 ⟨rfl,hb1⟩
 have HB1:=Hm (bUA hb1)
 have hs1:=bHeap hb1 (hnew (w:=w) (o:=.cells ([.int .u8 r,.int .u8 k,.int .u8 x,.int .u64 ta,.int .u64 tb,.int .u64 tc,.slice AS fs.length cS]:List Value).toArray 27) rfl)
 have HS1:=Hm hs1
 obtain⟨s0,s1,s2,s3,s4,s5,s6⟩:=cC7 hs1
 have hsz:=hlt hs1
 clear hb1 hs1 HAw
 go_upto_region 3 with fail
 go_cut [7,8] from 22 to 25 (λcv lv wx=>∃ p Al cl,cv=.pointer (some ⟨p,0,none⟩)∧lv=.slice Al st.fs.length cl∧FullSt W1 wx st p (.slice Al st.fs.length cl))
 case first =>
  refine rgt (.rd 0 (.rd 2 (.br 1 [2] (.br 3 [] (.hv 4 [] (.hv 5 [] (.rd 6 (.nil)))) (.hv 4 [2] (.hv 3 [] (.hv 5 [] (.rd 6 (.nil)))))) (.hv 4 [0,2] (.hv 1 [2] (.hv 3 [] (.hv 5 [] (.rd 6 (.nil))))))))) (n:=132) rfl ?_
  iterate 2 (refine tree_rd rfl (λK hK=>?_);go_simp;refine hK _ ?_;clear hK K)
  refine tree_br rfl ?_ ?_
  ·go_wp2_with fail
   have hbp:Bel W1 _:=bD (bR W1)
   refine(HCf.o _).mono ?_
   rintro e w1 ⟨rfl,hb1⟩
   have HB3:=Hm (bT hbp hb1)
   have HB2:=Hm (bT (bR W1) HB3.o)
   have hq1:=bHeap HB2.o HS1.o
   clear hbp hb1 s0 s1 s2 s3 s4 s5 s6 hsz
   obtain⟨s0,s1,s2,s3,s4,s5,s6⟩:=cC7 hq1
   have hsz:=hlt hq1
   go_wp2_with fail
   refine⟨?_,?_⟩
   ·simp only[Again,slotOf]
    go_simp
   refine tree_br rfl ?_ ?_
   ·go_wp2_with fail
    refine(HFn.o _ (bT HB1.o HB2.o)).mono ?_
    rintro e w2 ⟨hb2,lv,ok2,rfl,hk2,hok2⟩
    obtain⟨A2,c2,rfl,-⟩:=hk2.form
    have HK2:=Hm (And.intro hb2 (And.intro hk2 hok2))
    have hw12:=hb2.size
    clear hb2 hk2 hok2
    go_wp2_with fail
    refine⟨?_,?_⟩
    ·exact trivial
    refine tree_hv rfl ?_
    go_wp2_with fail
    refine⟨?_,?_⟩
    ·exact trivial
    refine tree_hv rfl ?_
    go_wp2_with fail
    refine⟨?_,?_⟩
    ·exact trivial
    iterate 1 (refine tree_rd rfl (λK hK=>?_);go_simp;refine hK _ ?_;clear hK K)
    unfold TreeL
    go_wp2_with fail
    go_meet
    have hbX:Bel w2 (w2.alloc (.cells #[.int .i64 st.regs,.int .i64 st.workers,.int .u64 st.t.lease,.int .u64 st.t.wait,.int .u64 st.t.most,.int .i64 st.room,.int .i64 st.box] 33)):=bA (bR _) _
    have hX:=bT (bT HB2.o HK2.o.1) hbX
    exact⟨w2.heap.size,A2,c2,rfl,rfl,hX,(bT HB2.o HK2.o.1).size,hnew rfl,_,sk_bel (HK2.o.2.1.sk.stay (ok':=λb=>b < w2.heap.size) (λb ho hb=>⟨hb,rfl⟩)) hbX,λb h1 _=>by omega⟩
   ·refine tree_hv rfl ?_
    go_wp2_with fail
    go_wp2_with fail
    refine⟨?_,?_⟩
    ·simp only[Again,slotOf]
     go_simp
    refine tree_hv rfl ?_
    go_wp2_with fail
    have hbY:Bel w1 (w1.alloc (.cells #[.int .i64 0,.int .i64 0,.int .u64 0,.int .u64 0,.int .u64 0,.int .i64 0,.int .i64 0] 33)):=bA (bR _) _
    have hpY:(w1.alloc (.cells #[.int .i64 0,.int .i64 0,.int .u64 0,.int .u64 0,.int .u64 0,.int .i64 0,.int .i64 0] 33)).heap[w1.heap.size]?=some (.cells #[.int .i64 0,.int .i64 0,.int .u64 0,.int .u64 0,.int .u64 0,.int .i64 0,.int .i64 0] 33 (0,0)):=hnew rfl
    obtain⟨p5,hp5⟩:∃ p5,p5=w1.heap.size:=⟨_,rfl⟩
    have hsY:(w1.alloc (.cells #[.int .i64 0,.int .i64 0,.int .u64 0,.int .u64 0,.int .u64 0,.int .i64 0,.int .i64 0] 33)).heap.size=p5+1:=by simp[hp5]
    rw[←hp5] at hpY⊢
    generalize w1.alloc (.cells #[.int .i64 0,.int .i64 0,.int .u64 0,.int .u64 0,.int .u64 0,.int .i64 0,.int .i64 0] 33)=Y at hbY hpY hsY⊢
    have hW1p:W1.heap.size≤p5:=by have:=HB2.o.size;omega
    have hpY0:p5 < Y.heap.size:=by omega
    have HPY:=Hm hpY
    clear hp5 hpY
    refine(HFn.o Y (bT HB1.o (bT HB2.o hbY))).mono ?_
    rintro e w2 ⟨hb2,lv,ok2,rfl,hk2,hok2⟩
    obtain⟨A2,c2,rfl,-⟩:=hk2.form
    have HK2:=Hm (And.intro (bT (bT HB2.o hbY) hb2) (And.intro hk2 hok2))
    have hz2:=bHeap hb2 HPY.o
    have HZ2:=Hm hz2
    have hw12:=hb2.size
    obtain⟨z0,z1,z2,z3,z4,z5,z6⟩:=cC7 hz2
    obtain⟨g0,g1,g2,g3,g4,g5,g6⟩:=fF7 hz2
    have hzl:=hlt hz2
    clear hb2 hk2 hok2 hz2
    go_wp2_with fail
    refine⟨?_,?_⟩
    ·exact trivial
    refine tree_hv rfl ?_
    go_wp2_with fail
    refine⟨?_,?_⟩
    ·exact trivial
    iterate 1 (refine tree_rd rfl (λK hK=>?_);go_simp;refine hK _ ?_;clear hK K)
    unfold TreeL
    go_wp2_with fail
    go_meet
    have hO:Only w2 (((((((w2.setCell ⟨p5,0,none⟩ (.int .i64 st.regs)).setCell ⟨p5,1,none⟩ (.int .i64 st.workers)).setCell ⟨p5,2,none⟩ (.int .u64 st.t.lease)).setCell ⟨p5,3,none⟩ (.int .u64 st.t.wait)).setCell ⟨p5,4,none⟩ (.int .u64 st.t.most)).setCell ⟨p5,5,none⟩ (.int .i64 st.room)).setCell ⟨p5,6,none⟩ (.int .i64 st.box)) (λb=>b=p5):=oC (oC (oC (oC (oC (oC (oC (Only.refl w2 (λb=>b=p5)) rfl 0 (.int .i64 st.regs)) rfl 1 (.int .i64 st.workers)) rfl 2 (.int .u64 st.t.lease)) rfl 3 (.int .u64 st.t.wait)) rfl 4 (.int .u64 st.t.most)) rfl 5 (.int .i64 st.room)) rfl 6 (.int .i64 st.box)
    have hX:(((((((w2.setCell ⟨p5,0,none⟩ (.int .i64 st.regs)).setCell ⟨p5,1,none⟩ (.int .i64 st.workers)).setCell ⟨p5,2,none⟩ (.int .u64 st.t.lease)).setCell ⟨p5,3,none⟩ (.int .u64 st.t.wait)).setCell ⟨p5,4,none⟩ (.int .u64 st.t.most)).setCell ⟨p5,5,none⟩ (.int .i64 st.room)).setCell ⟨p5,6,none⟩ (.int .i64 st.box)).heap[p5]?=some (.cells #[.int .i64 st.regs,.int .i64 st.workers,.int .u64 st.t.lease,.int .u64 st.t.wait,.int .u64 st.t.most,.int .i64 st.room,.int .i64 st.box] 33 (0,0)):=set_at (set_at (set_at (set_at (set_at (set_at (set_at (HZ2.o) 0 (.int .i64 st.regs)) 1 (.int .i64 st.workers)) 2 (.int .u64 st.t.lease)) 3 (.int .u64 st.t.wait)) 4 (.int .u64 st.t.most)) 5 (.int .i64 st.room)) 6 (.int .i64 st.box)
    have hbo:∀ b,(ok2 b∨some b=(Value.slice A2 st.fs.length c2).ownBlock)→Y.heap.size≤b:=by
     rintro b (h|h)
     ·exact HK2.o.2.2 b h
     ·exact(HK2.o.2.1.lt_own b h.symm).1
    exact⟨p5,A2,c2,rfl,rfl,bO HK2.o.1 hO (λb e=>by rw[e];exact hW1p),hW1p,hX,_,HK2.o.2.1.sk.stay (hO.stays (λb hb e=>by have:=hbo b hb;omega)),λb h1 _=>by have:=hbo b h1;omega⟩
  ·refine tree_hv rfl ?_
   go_wp2_with fail
   go_wp2_with fail
   refine⟨?_,?_⟩
   ·simp only[Again,slotOf]
    go_simp
   refine tree_hv rfl ?_
   go_wp2_with fail
   have hbY:Bel W1 (W1.alloc (.cells #[.int .i64 0,.int .i64 0,.int .u64 0,.int .u64 0,.int .u64 0,.int .i64 0,.int .i64 0] 33)):=bA (bR _) _
   have hpY:(W1.alloc (.cells #[.int .i64 0,.int .i64 0,.int .u64 0,.int .u64 0,.int .u64 0,.int .i64 0,.int .i64 0] 33)).heap[W1.heap.size]?=some (.cells #[.int .i64 0,.int .i64 0,.int .u64 0,.int .u64 0,.int .u64 0,.int .i64 0,.int .i64 0] 33 (0,0)):=hnew rfl
   obtain⟨p5,hp5⟩:∃ p5,p5=W1.heap.size:=⟨_,rfl⟩
   have hsY:(W1.alloc (.cells #[.int .i64 0,.int .i64 0,.int .u64 0,.int .u64 0,.int .u64 0,.int .i64 0,.int .i64 0] 33)).heap.size=p5+1:=by simp[hp5]
   rw[←hp5] at hpY⊢
   generalize W1.alloc (.cells #[.int .i64 0,.int .i64 0,.int .u64 0,.int .u64 0,.int .u64 0,.int .i64 0,.int .i64 0] 33)=Y at hbY hpY hsY⊢
   have hW1p:W1.heap.size≤p5:=by omega
   have hpY0:p5 < Y.heap.size:=by omega
   have HPY:=Hm hpY
   clear hp5 hpY
   have hbp:Bel Y _:=bD (bR Y)
   refine(HCf.o _).mono ?_
   rintro e w1 ⟨rfl,hb1⟩
   have HB3:=Hm (bT hbp hb1)
   have HB2:=Hm (bT hbY HB3.o)
   have hq1:=bHeap HB2.o HS1.o
   clear hbp hb1 s0 s1 s2 s3 s4 s5 s6 hsz
   obtain⟨s0,s1,s2,s3,s4,s5,s6⟩:=cC7 hq1
   have hsz:=hlt hq1
   go_wp2_with fail
   refine⟨?_,?_⟩
   ·simp only[Again,slotOf]
    go_simp
   refine tree_hv rfl ?_
   go_wp2_with fail
   have hpY1:p5 < w1.heap.size:=by have:=HB3.o.size;omega
   refine(HFn.o w1 (bT HB1.o HB2.o)).mono ?_
   rintro e w2 ⟨hb2,lv,ok2,rfl,hk2,hok2⟩
   obtain⟨A2,c2,rfl,-⟩:=hk2.form
   have HK2:=Hm (And.intro (bT HB2.o hb2) (And.intro hk2 hok2))
   have hz2:=bHeap hb2 (bHeap HB3.o HPY.o)
   have HZ2:=Hm hz2
   have hw12:=hb2.size
   obtain⟨z0,z1,z2,z3,z4,z5,z6⟩:=cC7 hz2
   obtain⟨g0,g1,g2,g3,g4,g5,g6⟩:=fF7 hz2
   have hzl:=hlt hz2
   clear hb2 hk2 hok2 hz2
   go_wp2_with fail
   refine⟨?_,?_⟩
   ·exact trivial
   refine tree_hv rfl ?_
   go_wp2_with fail
   refine⟨?_,?_⟩
   ·exact trivial
   iterate 1 (refine tree_rd rfl (λK hK=>?_);go_simp;refine hK _ ?_;clear hK K)
   unfold TreeL
   go_wp2_with fail
   go_meet
   have hO:Only w2 (((((((w2.setCell ⟨p5,0,none⟩ (.int .i64 st.regs)).setCell ⟨p5,1,none⟩ (.int .i64 st.workers)).setCell ⟨p5,2,none⟩ (.int .u64 st.t.lease)).setCell ⟨p5,3,none⟩ (.int .u64 st.t.wait)).setCell ⟨p5,4,none⟩ (.int .u64 st.t.most)).setCell ⟨p5,5,none⟩ (.int .i64 st.room)).setCell ⟨p5,6,none⟩ (.int .i64 st.box)) (λb=>b=p5):=oC (oC (oC (oC (oC (oC (oC (Only.refl w2 (λb=>b=p5)) rfl 0 (.int .i64 st.regs)) rfl 1 (.int .i64 st.workers)) rfl 2 (.int .u64 st.t.lease)) rfl 3 (.int .u64 st.t.wait)) rfl 4 (.int .u64 st.t.most)) rfl 5 (.int .i64 st.room)) rfl 6 (.int .i64 st.box)
   have hX:(((((((w2.setCell ⟨p5,0,none⟩ (.int .i64 st.regs)).setCell ⟨p5,1,none⟩ (.int .i64 st.workers)).setCell ⟨p5,2,none⟩ (.int .u64 st.t.lease)).setCell ⟨p5,3,none⟩ (.int .u64 st.t.wait)).setCell ⟨p5,4,none⟩ (.int .u64 st.t.most)).setCell ⟨p5,5,none⟩ (.int .i64 st.room)).setCell ⟨p5,6,none⟩ (.int .i64 st.box)).heap[p5]?=some (.cells #[.int .i64 st.regs,.int .i64 st.workers,.int .u64 st.t.lease,.int .u64 st.t.wait,.int .u64 st.t.most,.int .i64 st.room,.int .i64 st.box] 33 (0,0)):=set_at (set_at (set_at (set_at (set_at (set_at (set_at (HZ2.o) 0 (.int .i64 st.regs)) 1 (.int .i64 st.workers)) 2 (.int .u64 st.t.lease)) 3 (.int .u64 st.t.wait)) 4 (.int .u64 st.t.most)) 5 (.int .i64 st.room)) 6 (.int .i64 st.box)
   have hbo:∀ b,(ok2 b∨some b=(Value.slice A2 st.fs.length c2).ownBlock)→w1.heap.size≤b:=by
    rintro b (h|h)
    ·exact HK2.o.2.2 b h
    ·exact(HK2.o.2.1.lt_own b h.symm).1
   exact⟨p5,A2,c2,rfl,rfl,bO HK2.o.1 hO (λb e=>by rw[e];exact hW1p),hW1p,hX,_,HK2.o.2.1.sk.stay (hO.stays (λb hb e=>by have:=hbo b hb;omega)),λb h1 _=>by have:=hbo b h1;omega⟩
 case rest =>
 obtain⟨p,Al,cl,rfl,rfl,hfs⟩:=hcut
 unfold FullSt at hfs
 obtain⟨hbc,hpw,hcp,ok,hsk,hok⟩:=hfs
 have q3:=hcell hcp 5
 have e3:=hfree hcp 5
 simp at q3
 have hpl:=hlt hcp
 have HCp:=Hm hcp
 have HWc:=Hm (And.intro hbc (And.intro hpw (And.intro hsk hok)))
 clear hcp hbc hpw hsk hok HCf HFn s0 s1 s2 s3 s4 s5 s6 hsz HS1
 go_upto_region 5 with fail
 have hO:Only wc (wc.setCell ⟨p,5,none⟩ (.int .i64 (rm:Int))) (λb=>b=p):=oC (Only.refl wc (λb=>b=p)) rfl 5 (.int .i64 (rm:Int))
 have hcp:(wc.setCell ⟨p,5,none⟩ (.int .i64 (rm:Int))).heap[p]?=some (.cells #[.int .i64 sr.regs,.int .i64 sr.workers,.int .u64 sr.t.lease,.int .u64 sr.t.wait,.int .u64 sr.t.most,.int .i64 sr.room,.int .i64 sr.box] 33 (0,0)):=by
  rw[HSr.o]
  exact set_at HCp.o 5 (.int .i64 (rm:Int))
 generalize wc.setCell ⟨p,5,none⟩ (.int .i64 (rm:Int))=W2 at hO hcp⊢
 have hsf:st.fs=sr.fs:=by rw[HSr.o]
 have hskr:=HWc.o.2.2.1
 rw[hsf] at hskr⊢
 have hsk2:=(hskr.stay (ok':=λb=>b≠p∧b < wc.heap.size) (λb ho hb=>⟨⟨HWc.o.2.2.2 b ho hb,hb⟩,rfl⟩)).stay (hO.stays (λb hb e=>hb.1 e))
 have HN:=Hm (new_farm sr HSt.o.1 HSt.o.2.1 (by rw[HSr.o];exact HSt.o.2.2.2.2.2.1) (by rw[←hsf];exact HSt.o.2.2.1) _ _ W2 hsk2 0 (Nat.zero_le _) (λb _=>Nat.zero_le _))
 have HSs:Hd (StOk sr∧(1≤sr.fs.length∧sr.fs.length≤5)∧(∀ f∈sr.fs,Small f)∧sr.js=[]∧(3≤sr.regs∧sr.regs≤8)∧0 < sr.box∧sr.room=rm):=⟨HSt.o.2.1,by rw[←hsf];exact HSt.o.2.2.2.1,by rw[←hsf];exact HSt.o.2.2.2.2.1,by rw[HSr.o];exact HSt.o.2.2.2.2.2.1,by rw[HSr.o];exact HSt.o.2.2.2.2.2.2.1,by rw[HSr.o];exact HSt.o.2.2.2.2.2.2.2,by rw[HSr.o]⟩
 have HB2:=Hm (bO (bT HB1.o HWc.o.1) hO (λb e=>by rw[e];have:=HB1.o.size;have:=HWc.o.2.1;omega))
 clear hO hsf hskr HSr HSt HCp HWc q3 e3 t0 t1 hrm7 HB1
 obtain⟨y0,y1,y2,y3,y4,y5,y6⟩:=cC7 hcp
 have hpl2:=hlt hcp
 have HC2:=Hm (And.intro hcp hsk2)
 clear hcp hsk2 hpl
 unfold confV at HN
 go_wp2_with fail
 refine HN.o.mono ?_
 unfold NewPost
 rintro e W3 ⟨x0,ow,h,jobs,rfl,hb3,how,f3,u3,rfl⟩
 have HB3:=Hm (bT HB2.o hb3)
 have hcp3:=bHeap hb3 HC2.o.1
 have hsk3:Kd.SK kFunc W3 (λb=>ow b=0) sr.fs (.slice Al sr.fs.length cl):=HC2.o.2.stay (λb hb hl=>⟨by rw[how b hl,if_neg (by omega)],hb3.block b hl⟩)
 have how0:∀ b,b < W2.heap.size→ow b=0:=λb hb=>by rw[how b hb,if_neg (by omega)]
 go_wp2_with fail
 have hR0:FullRel w W3 sr x0 p (.slice Al sr.fs.length cl) 0 ow h [] (List.replicate sr.fs.length Ls.Job.zero):=⟨HB3.o,λb hb=>how0 b (by have:=HB2.o.size;omega),by have:=f3;rw[show sr={ sr with js:=[] } from by have:=HSs.o.2.2.2.1;cases sr;simp_all] at this;exact this,by have:=u3;rw[show sr={ sr with js:=[] } from by have:=HSs.o.2.2.2.1;cases sr;simp_all] at this;exact this,hcp3,how0 p hpl2,hsk3,by simp,Nat.le_refl _⟩
 have HR0:=Hm hR0
 clear hR0 how how0 f3 u3 hsk3 hcp3 hb3 HB3 HB2 HC2 y0 y1 y2 y3 y4 y5 y6 hpl2
 go_loopw [40] (λi wr=>∃ j,∃ (ow:Nat→Nat) (h:Hds) (L:List (Nat × List UInt8)) (jobs:List Ls.Job),j≤sr.fs.length∧i=.int .i64 (j:Nat)∧FullRel w wr sr x0 p (.slice Al sr.fs.length cl) j ow h L jobs) (λi _=>sr.fs.length-(intOf i).toNat)
 case atStart=>exact⟨0,_,_,_,_,Nat.zero_le _,rfl,HR0.o⟩
 case round =>
  obtain⟨j,owj,hj9,L,jobsj,hjn,rfl,hR⟩:=hrel
  have HR:=Hm hR
  clear hR HR0
  by_cases hlt9:j < sr.fs.length
  ·have hf0:sr.fs[j]?=some (sr.fs[j]):=List.getElem?_eq_getElem hlt9
   have hsf0:=HSs.o.2.2.1 _ (List.getElem_mem hlt9)
   obtain⟨f,hfe⟩:∃ f,sr.fs[j]=f:=⟨_,rfl⟩
   rw[hfe] at hf0 hsf0
   have hj5:j < 5:=by have:=HSs.o.2.1.2;omega
   have hjm:j % sr.fs.length=j:=Nat.mod_eq_of_lt hlt9
   have HL:=Hm (λ(wx:World) (hb:Bel wr wx)=>letter_any sr.fs HSs.o.2.2.1 HSs.o.2.1.1 HSs.o.2.1.2 sr.regs HSs.o.2.2.2.2.1.1 HSs.o.2.2.2.2.1.2 j 0 (by omega) (by omega) la A ca hca hcam f (by rw[hjm];exact hf0) _ _ wx (sk_bel HR.o.funcs hb) ((HA.o.below HR.o.bel).below hb))
   rw[hjm] at HL
   unfold LetPost at HL
   obtain⟨stj,hstj⟩:∃ stj:FSt,stj={ sr with js:=L }:=⟨_,rfl⟩
   have hsj:stj.js=L∧stj.fs=sr.fs∧stj.workers=sr.workers∧stj.box=sr.box∧stj.room=sr.room∧stj.regs=sr.regs:=by rw[hstj];exact⟨rfl,rfl,rfl,rfl,rfl,rfl⟩
   have hfj:stj.fs[j]?=some f:=by rw[hsj.2.1];exact hf0
   have hT:TellOk stj j 0 (nvCode f sr.regs (la.take 200)) (nvCert f sr.regs):=by
    have:=tellOk_nv (st:=stj) hfj hsf0 (by omega) (by rw[hsj.2.2.2.2.2];exact HSs.o.2.2.2.2.1.1) (by rw[hsj.2.2.2.2.2];exact HSs.o.2.2.2.2.1.2) 0 (by omega) (la.take 200)
    rwa [hsj.2.2.2.2.2] at this
   have hln:=letter_len hsf0 HSs.o.2.2.2.2.1.1 HSs.o.2.2.2.2.1.2 j 0 (by omega) (by omega) (la.take 200)
   have hrec:=rec_len hsf0 HSs.o.2.2.2.2.1.1 HSs.o.2.2.2.2.1.2 j (by omega) (la.take 200)
   have hcl:=nvCode_len hsf0 HSs.o.2.2.2.2.1.1 HSs.o.2.2.2.2.1.2 (la.take 200)
   have hcok:=nvCode_ok hsf0 HSs.o.2.2.2.2.1.1 HSs.o.2.2.2.2.1.2 (la.take 200)
   generalize nvCode f sr.regs (la.take 200)=C1 at *
   generalize nvCert f sr.regs=cert at *
   have HT:=Hm (And.intro hT (And.intro hln (And.intro hrec (And.intro hcl hcok))))
   clear hT hln hrec hcl hcok hfj
   have hc:=HR.o.conf
   have k0:wr.cell? ⟨p,0,none⟩=some (.int .i64 sr.regs):=hcell hc 0
   have hcl:=hlt hc
   have HJ:=Hm (And.intro hf0 (And.intro hsf0 (And.intro hfe hlt9)))
   have hltI:(j:Int) < (sr.fs.length:Int):=by omega
   clear hc hf0 hsf0 hfe hjm
   have HSj:=Hm (And.intro hstj hsj)
   have HFj:Hd (Farm wr owj x0 stj hj9 (List.replicate (stj.workers+1) [])∧FarmUp wr owj stj hj9 jobsj 0):=⟨by rw[hstj];exact HR.o.farm,by rw[hstj];exact HR.o.up⟩
   have HWk:Hd (stj.workers≤3∧0 < stj.box):=⟨by rw[hsj.2.2.1];exact HSs.o.1.wk,by rw[hsj.2.2.2.1];exact HSs.o.2.2.2.2.2.1⟩
   clear hstj hsj
   go_wp2_with fail
   refine(HL.o wr (bR wr)).mono ?_
   rintro e W4 ⟨hb4,V,rfl,A1,c1,rfl,k1,k2,k3⟩
   have HW4:=Hm (And.intro hb4 (And.intro k1 (And.intro k2 k3)))
   clear hb4 k1 k2 k3 k0 hcl HL
   go_wp2_with fail
   refine(file_bytes W4 owj x0 stj hj9 _ (HFj.o.1.bel HW4.o.1)).mono ?_
   rintro e W5 ⟨v5,rfl,hb5,ho5⟩
   obtain⟨A5,c5,rfl,hr5,-,hz5,-,hm5⟩:=own_row ho5
   have HW5:=Hm (And.intro (bT HW4.o.1 hb5) (And.intro (HW4.o.2.1.below hb5) (And.intro hr5 (And.intro hz5 hm5))))
   clear hb5 ho5 hr5 hz5 hm5
   go_wp2_with fail
   refine(send_up W5 owj x0 stj hj9 (HFj.o.1.bel HW5.o.1) HWk.o.1 HWk.o.2 jobsj 0 (HFj.o.2.bel HW5.o.1) (letterOf j 0 C1 cert) A1 c1 HW5.o.2.1 HT.o.2.1 HW4.o.2.2.1).mono ?_
   rintro e W6 ⟨rfl,h6,t6,f6,u6⟩
   have HF6:=Hm (And.intro t6 (And.intro f6 u6))
   clear t6 f6 u6
   go_wp2_with fail
   refine(take_room W6 owj x0 stj h6 j 0 C1 cert HF6.o.2.1 HWk.o.1 jobsj 0 HF6.o.2.2 HT.o.1 (by have:=HT.o.2.2.1;omega) (λq hq=>HR.o.below q (by rw[HSj.o.2.1] at hq;exact hq)) (by rw[HSj.o.2.1];have:=HR.o.few;omega)).mono ?_
   rintro e W7 ⟨ev,L2,rfl,⟨ow7,h7,jobs7,t7,f7,u7⟩,hway⟩
   have HT7:=Hm (HF6.o.1.coarse.any t7)
   have HF7:=Hm (And.intro f7 u7)
   have HWay:=Hm hway
   clear t7 f7 u7 hway HF6
   go_wp2_with fail
   have hb7:Bytes W7 A1 (letterOf j 0 C1 cert):=HT7.o.row HW5.o.2.1 (λa ha=>HFj.o.1.new _ (HW4.o.2.2.2 a ha))
   refine(takeTell_any j 0 HT.o.1.j16 HT.o.1.ll C1 HT.o.1.code HT.o.1.fine cert HT.o.1.c16 HT.o.1.pairs HT.o.1.len A1 c1 W7 hb7 HW4.o.2.2.1).mono ?_
   unfold TellPost
   rintro e W8 ⟨hb8,v8,u8,ok8,ok8',rfl,hs8,hu8,-⟩
   obtain⟨Av8,cv8,rfl,-,-⟩:=sk_form hs8
   obtain⟨Au8,cu8,rfl,-,-⟩:=sk_form hu8
   have HS8:=Hm (And.intro hb8 hs8)
   clear hb8 hs8 hu8 hb7
   go_wp2_with fail
   have hb9:Bel W8 (W8.alloc (.cells #[.int .i64 j,.int .u64 0,.int .i64 C1.params,.int .i64 C1.regs,.int .i64 C1.slots,.slice Av8 C1.blocks.length cv8,.slice Au8 cert.length cu8] 71)):=bA (bR _) _
   have hh9:(W8.alloc (.cells #[.int .i64 j,.int .u64 0,.int .i64 C1.params,.int .i64 C1.regs,.int .i64 C1.slots,.slice Av8 C1.blocks.length cv8,.slice Au8 cert.length cu8] 71)).heap[W8.heap.size]?=some (.cells ([.int .i64 j,.int .u64 0,.int .i64 C1.params,.int .i64 C1.regs,.int .i64 C1.slots,.slice Av8 C1.blocks.length cv8,.slice Au8 cert.length cu8]:List Value).toArray 71 (0,0)):=hnew rfl
   obtain⟨tb,htb⟩:∃ tb,W8.heap.size=tb:=⟨_,rfl⟩
   rw[htb] at hh9
   generalize W8.alloc (.cells #[.int .i64 j,.int .u64 0,.int .i64 C1.params,.int .i64 C1.regs,.int .i64 C1.slots,.slice Av8 C1.blocks.length cv8,.slice Au8 cert.length cu8] 71)=W9 at hb9 hh9⊢
   have HW9:=Hm (And.intro (bT HS8.o.1 hb9) (And.intro hh9 (sk_bel HS8.o.2 hb9)))
   obtain⟨-,-,y2,y3,y4,y5⟩:=cC6 hh9
   have hyz:=hlt hh9
   have tw:IntKind.u64.wrap (j:Int)=j:=wrap_u64 _ (by omega)
   obtain⟨LW,hLW⟩:∃ LW,LW=laid (recsOf stj.js):=⟨_,rfl⟩
   rw[←hLW]
   have hlw:LW.length≤4194304:=by rw[hLW];exact HFj.o.1.file.small
   have HLW:=Hm (And.intro hLW hlw)
   clear hb9 hh9 hLW hlw
   refine rgn [.rd 0,.rd 1,.rd 2,.rd 3,.rd 5,.rd 6,.hv 4 [0,1,5,6],.hv 7 [0,1],.hv 8 [0,1],.hv 9 [0,1],.rd 10,.rd 11,.rd 12] (n:=132) rfl ?_
   iterate 6 (refine line_rd rfl (λK hK=>?_);go_simp;refine hK _ ?_;clear hK K)
   refine line_hv rfl ?_
   go_wp2_with fail
   refine(refPut_any none 0 [] j _ (Bytes.nil _ _) (by simp) (by omega)).mono ?_
   rintro e Y1 ⟨hb,v,rfl,ho⟩
   rw[List.nil_append] at ho
   obtain⟨A3,c3,rfl,-⟩:=own_row ho
   have HY1:=Hm (And.intro (bU hb) (And.intro ho (bHeap (bU hb) HW9.o.2.1)))
   clear hb ho y2 y3 y4 y5 hyz tw
   obtain⟨-,-,y2,y3,y4,y5⟩:=cC6 HY1.o.2.2
   have hyz:=hlt HY1.o.2.2
   go_wp2_with fail
   refine⟨?_,?_⟩
   ·simp only[Again,slotOf]
    go_simp
   refine line_hv rfl ?_
   clear y2 y3 y4 y5 hyz
   go_wp2_with fail
   refine(codeBytes_any C1 HT.o.1.code HT.o.1.fine _ _ Y1 (sk_bel HW9.o.2.2 HY1.o.1)).mono ?_
   unfold RefB
   rintro e Y2 ⟨hb,V,rfl,A4,c4,rfl,k1,k2,k3⟩
   have HY2:=Hm (And.intro hb (And.intro k1 (And.intro (own_below HY1.o.2.1 hb) k2)))
   obtain⟨LC,hLC⟩:∃ LC,LC=encCode C1:=⟨_,rfl⟩
   rw[←hLC] at HY2⊢
   have HLC:=Hm hLC
   have hlc:LC.length≤30000:=by rw[hLC];exact HT.o.2.2.2.1
   have hlj:(leb j).length≤10:=leb_len10 (by omega)
   clear hb k1 k2 k3 hLC
   go_wp2_with fail
   refine⟨?_,?_⟩
   ·simp only[Again,slotOf]
    go_simp
   refine line_hv rfl ?_
   refine app iByte Tryz.underlying38 rfl (.tmp 69) (.tmp 72) rfl (v:=.slice A3 (leb j).length c3) rfl HY2.o.2.2.1 (by have:=HY1.o.1.size;have:=HY2.o.1.size;exact Nat.le_trans ‹_› ‹_›) (A:=A4) (m:=LC.length) (c:=c4) rfl HY2.o.2.1 (by simp) byte_one (by omega) ?_
   intro v5 Y3 ho3 hg3
   have HB3:Hd (Bel W9 Y3):=⟨bG (bT HY1.o.1 HY2.o.1) hg3 (λk hk=>(HY1.o.2.1.lt k hk).1)⟩
   have ho3':OwnB Y3 W9.heap.size v5 (recB j LC):=by unfold OwnB recB;rw[List.length_append,List.map_append];exact ho3
   obtain⟨A6,c6,rfl,hr6,-⟩:=own_row ho3'
   have hrl:(recB j LC).length≤65536:=by have:=HT.o.2.2.1;rw[HLC.o];omega
   have HLy:=Hm (refLay_any 1 A6 c6 (recB j LC) Y3 hr6 hrl)
   rw[show byteV 1=.int .u8 1 from rfl] at HLy
   clear ho3 hg3 ho3' hr6
   go_wp2_with fail
   refine⟨?_,?_⟩
   ·simp only[Again,slotOf]
    go_simp
   refine line_hv rfl ?_
   go_wp2_with fail
   refine HLy.o.mono ?_
   rintro e Y4 ⟨hb,V,rfl,A7,c7,rfl,k1,k2,k3⟩
   obtain⟨lr,hlr⟩:∃ lr,(layF 1 (recB j LC)).length=lr:=⟨_,rfl⟩
   have hlr2:lr≤65600:=by rw[←hlr];exact layF_len 1 _ hrl
   have hsz:roomFor stj j (encCode C1)=LW.length+lr:=by unfold roomFor;rw[←HLW.o.1,←HLC.o,hlr]
   have HSz:=Hm hsz
   have HB4:Hd (Bel W7 Y4):=⟨bT HW9.o.1 (bT HB3.o hb)⟩
   obtain⟨S,hS⟩:∃ S,S=LW.length+lr:=⟨_,rfl⟩
   rw[←hS] at HSz
   have hwr:IntKind.i64.wrap ((LW.length:Int)+(lr:Int))=(S:Int):=by have:=HLW.o.2;rw[hS];simp[IntKind.wrap,IntKind.bits,IntKind.signed];omega
   clear hS
   rw[hlr]
   clear hb k1 k2 k3 hlr hsz hrl HLy
   go_wp2_with fail
   refine⟨?_,?_⟩
   ·simp only[Again,slotOf]
    go_simp
   iterate 3 (refine line_rd rfl (λK hK=>?_);go_simp;refine hK _ ?_;clear hK K)
   unfold Line
   rcases HWay.o with ⟨hr,hev,hL2⟩|⟨hr,hev,hL2⟩
   ·subst hev
    subst hL2
    have hSr:S≤sr.room:=by rw[←HSz.o,←HSj.o.2.2.2.2.2.1];exact hr
    have hSn:decide (sr.room < S)=false:=by simp;omega
    have F1:=HF7.o.1.bel HB4.o
    have U1:=HF7.o.2.bel HB4.o
    clear HWay hr
    go_wp2_with fail
    refine(code_last Y4 ow7 x0 _ h7 _ F1 jobs7 0 U1 stj.js j C1 rfl HT.o.1.code HT.o.1.fine (by have:=HT.o.2.2.2.1;omega)).mono ?_
    rintro e Y5 ⟨hb5,v9,rfl,hk9⟩
    obtain⟨A9,c9,rfl,-,-⟩:=sk_form hk9
    have HB5:=Hm hb5
    clear hb5 hk9 F1 U1
    go_wp2_with fail
    have hb6:Bel Y5 (Y5.alloc (.cells #[.int .i64 C1.params,.int .i64 C1.regs,.int .i64 C1.slots,.slice A9 C1.blocks.length c9] 59)):=bA (bR _) _
    generalize Y5.alloc (.cells #[.int .i64 C1.params,.int .i64 C1.regs,.int .i64 C1.slots,.slice A9 C1.blocks.length c9] 59)=Y6 at hb6⊢
    have HB6:=Hm (bT HB4.o (bT HB5.o hb6))
    have hcf:=bHeap HB6.o (HT7.o.heap (bHeap HW5.o.1 HR.o.conf) (λe=>e HR.o.confz))
    have r5:Y6.cell? ⟨p,5,none⟩=some (.int .i64 sr.room):=hcell hcf 5
    have hpl:=hlt hcf
    have hlen:(laid (recsOf (stj.js++[(j,encCode C1)]))).length=S:=by rw[←HSz.o];unfold roomFor recsOf;rw[List.map_append,laid_append];simp[laid]
    have HFi:=Hm (λ(wx:World) (hx:Bel Y6 wx)=>file_bytes wx ow7 x0 _ h7 _ (HF7.o.1.bel (bT HB6.o hx)))
    have HCf:=Hm hcf
    clear hb6 hcf HB5
    have hun:=undef_no
    refine rgn [.rd 0,.rd 1,.rd 2,.rd 3,.rd 4,.rd 5,.rd 6,.rd 7,.rd 8,.rd 9,.rd 10,.rd 11,.rd 12,.rd 15,.hv 13 [15],.rd 14,.rd 16,.rd 17,.rd 18,.rd 19,.rd 20,.rd 21,.rd 22,.rd 23,.rd 24,.rd 25,.rd 26,.rd 27,.rd 28,.rd 29,.rd 30,.rd 31,.rd 33,.hv 32 [33],.rd 34,.rd 35,.rd 36,.rd 37,.rd 38,.rd 39,.rd 42,.rd 43,.hv 40 [42,43],.rd 41,.rd 44,.rd 45,.rd 46,.rd 47] (n:=132) rfl ?_
    refine LineS.o ?_
    iterate 14 (refine line_rs rfl (λK hK=>?_);go_simp;refine hK _ ?_;clear hK K)
    refine line_hs rfl ?_
    go_wp2_with fail
    refine(HFi.o _ (bD (bR Y6))).mono ?_
    rintro e Y7 ⟨v10,rfl,hb7,ho7⟩
    obtain⟨A10,c10,rfl,-⟩:=own_row ho7
    rw[hlen]
    have HB7:=Hm (bU hb7)
    have hcf:=bHeap (bU hb7) HCf.o
    clear hb7 ho7 hlen r5 hpl HFi
    have r5:Y7.cell? ⟨p,5,none⟩=some (.int .i64 sr.room):=hcell hcf 5
    have hpl:=hlt hcf
    clear hcf
    go_wp2_with fail
    refine⟨?_,?_⟩
    ·simp only[Again,slotOf]
     go_simp
    iterate 18 (refine line_rs rfl (λK hK=>?_);go_simp;refine hK _ ?_;clear hK K)
    refine line_ns rfl (by go_simp) ⟨?_,?_⟩
    ·simp only[Again,slotOf]
     go_simp
    iterate 8 (refine line_rs rfl (λK hK=>?_);go_simp;refine hK _ ?_;clear hK K)
    refine line_ns rfl (by go_simp) ⟨?_,?_⟩
    ·simp only[Again,slotOf]
     go_simp
    iterate 5 (refine line_rs rfl (λK hK=>?_);go_simp;refine hK _ ?_;clear hK K)
    refine⟨?_⟩
    unfold Line
    go_wp2_with fail
    go_roundw
    case rel=>exact⟨j+1,_,_,_,_,by omega,by go_num,full_next HR.o HW5.o.1 HT7.o HSj.o.1 HF7.o.1 HF7.o.2 (bT HB6.o HB7.o) (by rw[HSj.o.2.1];intro q hq;rcases List.mem_append.1 hq with hq|hq;(· have:=HR.o.below q hq;omega);(· simp at hq;rw[hq];simp)) (by rw[HSj.o.2.1];simp;exact HR.o.few)⟩
    case measure=>simp[intOf];omega
   ·subst hev
    subst hL2
    have hSr:sr.room < S:=by rw[←HSz.o,←HSj.o.2.2.2.2.2.1];exact hr
    have hSn:¬S≤sr.room:=by omega
    have F1:=HF7.o.1.bel HB4.o
    have U1:=HF7.o.2.bel HB4.o
    clear HWay hr
    have hnk:(j:Int)∉keysOf ({ stj with js:=stj.js }:FSt).js:=by
     rw[show ({ stj with js:=stj.js }:FSt).js=L from HSj.o.2.1]
     intro hm
     obtain⟨q,hq,e⟩:=List.mem_map.1 hm
     have:=HR.o.below q hq
     omega
    go_wp2_with fail
    refine(code_none Y4 ow7 x0 _ h7 _ F1 jobs7 0 U1 j hnk).mono ?_
    rintro e Y5 ⟨rfl,hb5⟩
    have HB5:=Hm hb5
    clear hb5 F1 U1 hnk
    go_wp2_with fail
    have hb6:Bel Y5 (Y5.alloc (.cells #[.int .i64 0,.int .i64 0,.int .i64 0,.slice none 0 0] 59)):=bA (bR _) _
    generalize Y5.alloc (.cells #[.int .i64 0,.int .i64 0,.int .i64 0,.slice none 0 0] 59)=Y6 at hb6⊢
    have HB6:=Hm (bT HB4.o (bT HB5.o hb6))
    have hcf:=bHeap HB6.o (HT7.o.heap (bHeap HW5.o.1 HR.o.conf) (λe=>e HR.o.confz))
    have r5:Y6.cell? ⟨p,5,none⟩=some (.int .i64 sr.room):=hcell hcf 5
    have hpl:=hlt hcf
    have HFi:=Hm (λ(wx:World) (hx:Bel Y6 wx)=>file_bytes wx ow7 x0 _ h7 _ (HF7.o.1.bel (bT HB6.o hx)))
    have HJb:=Hm (λ(wx:World) (hx:Bel Y6 wx)=>jobs_rows wx ow7 x0 _ h7 _ (HF7.o.1.bel (bT HB6.o hx)) jobs7 0 (HF7.o.2.bel (bT HB6.o hx)))
    have HBy:Hd (∀ wx,Bel Y6 wx→(convert 38 9 (.slice A5 LW.length c5)).run Tryz.prog wx=.ok (.string ⟨LW.toArray⟩) wx):=⟨λwx hx=>by rw[HLW.o.1];exact strOf (Bytes.below (HT7.o.row HW5.o.2.2.1 (λa ha=>HFj.o.1.new _ (by have:=HW5.o.2.2.2.1 a ha;have:=HW4.o.1.size;omega))) (bT HB6.o hx)) c5⟩
    have HCf:=Hm hcf
    have hjl:j < jobs7.length:=by rw[HF7.o.2.len];show j < stj.fs.length;rw[HSj.o.2.2.1];exact hlt9
    have hdn:jobs7[j].done=false:=by rw[HF7.o.2.done j hjl,show ({ stj with js:=stj.js }:FSt).js=L from HSj.o.2.1];simp only[decide_eq_false_iff_not];intro hm;obtain⟨q,hq,e⟩:=List.mem_map.1 hm;have:=HR.o.below q hq;omega
    have HJl:=Hm (And.intro hjl hdn)
    clear hb6 hcf HB5 hdn
    have hun:=undef_no
    refine rgn [.rd 0,.rd 1,.rd 2,.rd 3,.rd 4,.rd 5,.rd 6,.rd 7,.rd 8,.rd 9,.rd 10,.rd 11,.rd 12,.rd 15,.hv 13 [15],.rd 14,.rd 16,.rd 17,.rd 18,.rd 19,.rd 20,.rd 21,.rd 22,.rd 23,.rd 24,.rd 25,.rd 26,.rd 27,.rd 28,.rd 29,.rd 30,.rd 31,.rd 33,.hv 32 [33],.rd 34,.rd 35,.rd 36,.rd 37,.rd 38,.rd 39,.rd 42,.rd 43,.hv 40 [42,43],.rd 41,.rd 44,.rd 45,.rd 46,.rd 47] (n:=132) rfl ?_
    refine LineS.o ?_
    iterate 14 (refine line_rs rfl (λK hK=>?_);go_simp;refine hK _ ?_;clear hK K)
    refine line_ns rfl (by go_simp) ⟨?_,?_⟩
    ·simp only[Again,slotOf]
     go_simp
    iterate 18 (refine line_rs rfl (λK hK=>?_);go_simp;refine hK _ ?_;clear hK K)
    refine line_hs rfl ?_
    go_wp2_with fail
    refine(HJb.o _ (bD (bR Y6))).mono ?_
    rintro e Y7 ⟨hb7,v10,rfl,hj7⟩
    obtain⟨g,cg,rfl,-,hcg,hce⟩:=hj7.form (by have:=HJl.o.1;omega)
    have y0:=hce j HJl.o.1 0 (by omega)
    rw[show jobs7[j].cells[0]?=some (.bool jobs7[j].done) from rfl,HJl.o.2,Nat.add_zero] at y0
    have hyb:=World.block_lt_of_cell? Y7 _ y0
    have HB7:=Hm (bU hb7)
    have hst5:=HBy.o Y7 HB7.o
    clear hb7 hj7 hce r5 hpl HJb
    go_wp2_with fail
    refine⟨?_,?_⟩
    ·simp only[Again,slotOf]
     go_simp
    iterate 8 (refine line_rs rfl (λK hK=>?_);go_simp;refine hK _ ?_;clear hK K)
    refine line_hs rfl ?_
    go_wp2_with fail
    refine(HFi.o Y7 HB7.o).mono ?_
    rintro e Y8 ⟨v11,rfl,hb8,ho8⟩
    obtain⟨A11,c11,rfl,hr11,-⟩:=own_row ho8
    have hLe:laid (recsOf ({ stj with js:=stj.js }:FSt).js)=LW:=HLW.o.1.symm
    rw[hLe] at hr11⊢
    have hst6:=strOf hr11 c11
    have HB8:=Hm (bT HB7.o hb8)
    clear hst5
    have hst5:=HBy.o Y8 HB8.o
    clear hb8 ho8 hr11 hLe y0 hyb HFi HBy
    go_wp2_with fail
    refine⟨?_,?_⟩
    ·simp only[Again,slotOf]
     go_simp
    iterate 5 (refine line_rs rfl (λK hK=>?_);go_simp;refine hK _ ?_;clear hK K)
    refine⟨?_⟩
    unfold Line
    clear hst5 hst6
    go_wp2_with fail
    go_roundw
    case rel=>exact⟨j+1,_,_,_,_,by omega,by go_num,full_next HR.o HW5.o.1 HT7.o HSj.o.1 HF7.o.1 HF7.o.2 (bT HB6.o HB8.o) (by rw[HSj.o.2.1];intro q hq;have:=HR.o.below q hq;omega) (by rw[HSj.o.2.1];have:=HR.o.few;omega)⟩
    case measure=>simp[intOf];omega
  ·obtain rfl:j=sr.fs.length:=by omega
   have HB9:=Hm HR.o.bel
   clear HR
   go_wp2_with fail
   go_ret
   exact⟨rfl,HB9.o⟩
end Go.Proofs.YtjkgligohegaeaaGreatDoor
