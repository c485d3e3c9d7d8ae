/- Texts of the top seat, merged: what the claim uses of them. -/
import Derived.Test.YtjkgligohegaeaaGreatDoorM21
import Derived.Test.YtjkgligohegaeaaGreatDoorM22
import Derived.Test.YtjkgligohegaeaaGreatDoorM08
set_option linter.unusedVariables false
set_option linter.unusedSimpArgs false
set_option linter.unusedSectionVars false
set_option maxRecDepth 20000
set_option maxHeartbeats 12800000
namespace Go.Proofs.YtjkgligohegaeaaGreatDoor
open Go.RowKit
theorem funcs_small (fs:List SpecV):∀ f∈funcsOf fs,Small f:=by
 intro f hf
 unfold funcsOf at hf
 split at hf
 ·simp at hf
  subst hf
  exact made_small 0 0 0 (by omega) []
 ·obtain⟨s,hs,rfl⟩:=List.mem_map.1 hf
  exact made_small _ _ _ (Nat.mod_lt _ (by omega)) _
theorem funcs_len (fs:List SpecV):1≤(funcsOf fs).length∧(funcsOf fs).length≤5:=by
 unfold funcsOf
 split
 ·simp
 ·rename_i h
  have h1:0 < fs.length:=List.length_pos_iff.2 h
  rw[List.length_map,List.length_take]
  omega
theorem cfg_conf (r k x a b c:Nat) (fs:List SpecV) (room:Nat) (h:room≤4194304):CfOk { cfgOf r k x a b c (funcsOf fs) with room:=room }:=by
 have k1:r % 6 < 6:=Nat.mod_lt _ (by omega)
 have k2:k % 3 < 3:=Nat.mod_lt _ (by omega)
 have k3:x % 6 < 6:=Nat.mod_lt _ (by omega)
 refine⟨?_,?_,?_,?_,h,?_,?_,λf hf=>(funcs_small fs f hf).ok⟩<;>simp only[cfgOf]<;>omega
theorem cfg_ok (r k x a b c:Nat) (fs:List SpecV) (room:Nat):StOk { cfgOf r k x a b c (funcsOf fs) with room:=room }:=by
 have k1:a % 20 < 20:=Nat.mod_lt _ (by omega)
 have k2:b % 10 < 10:=Nat.mod_lt _ (by omega)
 have k3:c % 60 < 60:=Nat.mod_lt _ (by omega)
 have k4:k % 3 < 3:=Nat.mod_lt _ (by omega)
 have h:=funcs_len fs
 have hb:∀ n:Nat,1≤n→n≤1099511627776→Ls.bad n=false:=λn h1 h2=>by
  unfold Ls.bad
  rw[decide_eq_false (by omega),decide_eq_false (by omega)]
  rfl
 exact⟨h.1,Nat.le_trans h.2 (by omega),hb _ (by show 1≤1+a % 20;omega) (by show 1+a % 20≤_;omega),hb _ (by show 1≤1+b % 10;omega) (by show 1+b % 10≤_;omega),hb _ (by show 1≤1+b % 10+c % 60;omega) (by show 1+b % 10+c % 60≤_;omega),
  by show ¬1+b % 10+c % 60 < 1+b % 10;omega,by show 1+k % 3≤3;omega,rfl⟩
theorem funcs_fine (fs:List SpecV):FsFine (funcsOf fs):=by
 refine⟨λf hf=>?_,λf hf b hb=>⟨?_,λi hi=>?_⟩,λf hf=>?_⟩
 ·have h:=(funcs_small fs f hf).ok
  have h1:=h.p0;have h2:=h.p4;have h3:=h.pv;have h4:=h.v32
  exact⟨wf64.2 (by omega),wf64.2 (by omega)⟩
 ·have:=(funcs_small fs f hf).i8 b hb
  omega
 ·have:=(((funcs_small fs f hf).ok.blocks b hb).ins i hi).args3
  omega
 ·have:=(funcs_small fs f hf).b7
  omega
def plainOw (ow:Nat→Nat):Nat→Nat:=λb=>if ow b=1 then 0 else ow b
theorem plainOw_0 {ow:Nat→Nat} {b:Nat} (h:ow b=0):plainOw ow b=0:=by unfold plainOw;rw[h];rfl
theorem plainOw_n {ow:Nat→Nat} {b n:Nat} (h:ow b=n) (hn:n≠1):plainOw ow b=n:=by unfold plainOw;rw[if_neg (by omega)];exact h
theorem Farm.plain {w:World} {ow:Nat→Nat} {x:Nat} {st:FSt} {h:Hds} {lt:List (List (List UInt8))} (f:Farm w ow x st h lt):Farm w (plainOw ow) x st h lt:=by
 refine⟨f.head,plainOw_n f.ox (by omega),f.funcs.stay (λb hb _=>⟨plainOw_0 hb,rfl⟩),f.file,plainOw_n f.of_ (by omega),λh0 a ha=>plainOw_0 (f.oA h0 a ha),?_,λi h1=>?_,λi h1=>⟨(f.letters i h1).1,λj h2 h3=>?_⟩,f.lens,λb hb=>plainOw_0 (f.new b hb)⟩
 ·obtain⟨Ab,cb,e1,e2,e3,e4⟩:=f.row
  exact⟨Ab,cb,e1,e2,e3,λa ha=>plainOw_0 (e4 a ha)⟩
 ·obtain⟨b1,b2,b3⟩:=f.boxes i h1
  exact⟨b1,plainOw_0 b2,plainOw_n b3 (by omega)⟩
 ·obtain⟨A,c,e,hb,hc,hA⟩:=(f.letters i h1).2 j h2 h3
  exact⟨A,c,e,hb,hc,λh0 a ha=>plainOw_0 (hA h0 a ha)⟩
theorem FarmUp.plain {w:World} {ow:Nat→Nat} {st:FSt} {h:Hds} {jobs:List Ls.Job} {last:Nat} (u:FarmUp w ow st h jobs last):FarmUp w (plainOw ow) st h jobs last:=by
 obtain⟨⟨pb,base,ok,kv,vv,pt,Bt,e1,e2,hb,ht,o1,o2,o3,o4,o5,o6⟩,hl,hd⟩:=u
 exact⟨⟨pb,base,ok,kv,vv,pt,Bt,e1,e2,hb,ht,plainOw_n o1 (by omega),λg hg=>plainOw_n (o2 g hg) (by omega),λg hg=>plainOw_n (o3 g hg) (by omega),λb hb=>plainOw_0 (o4 b hb),plainOw_n o5 (by omega),plainOw_n o6 (by omega)⟩,hl,hd⟩
def MadeFarm (w:World) (st:FSt) (e:Ending) (w':World):Prop :=
 ∃ x ow h lv,e=.returned (.tuple #[.pointer (some ⟨x,0,none⟩),confV st,lv])∧Bel w w'∧(∀ b,b < w.heap.size→ow b=0)∧Farm w' ow x st h (List.replicate (st.workers+1) [])∧FarmUp w' ow st h (List.replicate st.fs.length Ls.Job.zero) 0∧Kd.SK kFunc w' (λb=>ow b=0) st.fs lv
theorem made_fin {w w5 w6:World} {p:Nat} {ow:Nat→Nat} {x:Nat} {st:FSt} {h:Hds} {lv:Value} (hB:Bel w w5) (hp:w.heap.size≤p) (hg:Only w5 w6 (λb=>b=p)) (h1:ow p=1) (f:Farm w5 ow x st h (List.replicate (st.workers+1) [])) (u:FarmUp w5 ow st h (List.replicate st.fs.length Ls.Job.zero) 0)
  (hs:Kd.SK kFunc w5 (λb=>ow b=0) st.fs lv) (how:∀ b,b < w.heap.size→ow b=0∨ow b=1):MadeFarm w st (.returned (.tuple #[.pointer (some ⟨x,0,none⟩),confV st,lv])) w6:=by
 have t:Turn w5 w6 ow ow (λn=>n=1):=⟨hg.weaken (λb _ e=>by rw[e];exact h1),λ_ _=>rfl,by omega⟩
 refine⟨x,plainOw ow,h,lv,rfl,bO hB hg (λb e=>by rw[e];exact hp),λb hb=>?_,(f.turn t (λn e=>by omega) (λb hb=>f.new b (Nat.le_trans hg.size hb))).plain,(u.turn t (λn e=>by omega)).plain,(hs.stay t.stays).stay (λb hb _=>⟨plainOw_0 hb,rfl⟩)⟩
 unfold plainOw
 rcases how b hb with e|e<;>rw[e]<;>rfl
theorem made_farm (r k x a b c:Nat) (hr:r < 256) (hk:k < 256) (hx:x < 256) (fs:List SpecV) (ok:Nat→Prop) (v:Value) (w:World) (hv:Kd.SK kSpec w ok fs v) :
  Calls Tryz.prog 8 #[.agg #[.int .u8 r,.int .u8 k,.int .u8 x,.int .u64 a,.int .u64 b,.int .u64 c,v]] w (MadeFarm w (cfgOf r k x a b c (funcsOf fs))):=by
 have HV:=Hm hv
 obtain⟨A,ca,rfl,hca,hcm⟩:=sk_form hv
 have HCf:=Hm (λ(wx:World)=>config_any r k x a b c hr hk hx (.slice A fs.length ca) rfl (funcsOf fs) wx)
 have HFn:=Hm (λ(wx:World) (hb:Bel w wx)=>funcs_any r k x a b c fs ok (.slice A fs.length ca) wx (sk_bel hv hb))
 have hcf:=cfg_conf r k x a b c fs 262144 (by omega)
 have hso:=cfg_ok r k x a b c fs 262144
 have hff:=funcs_fine fs
 have HN:=Hm (λ(wx:World) (ok:Nat→Prop) (lv:Value) (hl:Kd.SK kFunc wx ok (funcsOf fs) lv)=>new_farm (cfgOf r k x a b c (funcsOf fs)) hcf hso rfl hff ok lv wx hl)
 clear hv hcf hso hff
 go_enter Tryz.func8,Tryz.ntmps8
 go_wp2_with fail
 obtain⟨q,hq⟩:∃ q,q=w.heap.size:=⟨_,rfl⟩
 have hb0:Bel w ((w.alloc (.cells #[.int .u8 r,.int .u8 k,.int .u8 x,.int .u64 a,.int .u64 b,.int .u64 c,.slice A fs.length ca] 27)).alloc (.cells #[.int .i64 0,.int .i64 0,.int .u64 0,.int .u64 0,.int .u64 0,.int .i64 0,.int .i64 0] 33)):=bA (bA (bR w) _) _
 have hq0:((w.alloc (.cells #[.int .u8 r,.int .u8 k,.int .u8 x,.int .u64 a,.int .u64 b,.int .u64 c,.slice A fs.length ca] 27)).alloc (.cells #[.int .i64 0,.int .i64 0,.int .u64 0,.int .u64 0,.int .u64 0,.int .i64 0,.int .i64 0] 33)).heap[q]?=some (.cells #[.int .u8 r,.int .u8 k,.int .u8 x,.int .u64 a,.int .u64 b,.int .u64 c,.slice A fs.length ca] 27 (0,0)):=hold (w:=w.alloc _) (hnew hq) (by simp[hq])
 have hr0:((w.alloc (.cells #[.int .u8 r,.int .u8 k,.int .u8 x,.int .u64 a,.int .u64 b,.int .u64 c,.slice A fs.length ca] 27)).alloc (.cells #[.int .i64 0,.int .i64 0,.int .u64 0,.int .u64 0,.int .u64 0,.int .i64 0,.int .i64 0] 33)).heap[q+1]?=some (.cells #[.int .i64 0,.int .i64 0,.int .u64 0,.int .u64 0,.int .u64 0,.int .i64 0,.int .i64 0] 33 (0,0)):=hnew (w:=w.alloc _) (by simp[hq])
 rw[←hq]
 generalize ((w.alloc (.cells #[.int .u8 r,.int .u8 k,.int .u8 x,.int .u64 a,.int .u64 b,.int .u64 c,.slice A fs.length ca] 27)).alloc (.cells #[.int .i64 0,.int .i64 0,.int .u64 0,.int .u64 0,.int .u64 0,.int .i64 0,.int .i64 0] 33))=W0 at hb0 hq0 hr0⊢
 have HB0:=Hm (And.intro hb0 (And.intro hq0 hr0))
 have HQ:Hd (w.heap.size=q):=⟨hq.symm⟩
 generalize hst:cfgOf r k x a b c (funcsOf fs)=st at *
 have hfs:st.fs=funcsOf fs:=by rw[←hst];rfl
 clear hst
 unfold confV at HCf HN
 obtain⟨q0,q1,q2,q3,q4,q5,q6⟩:=cC7 hq0
 have hl0:=hlt hq0
 clear hq hb0 hq0 hr0
 refine wp_region_tree (.rd 0 (.rd 2 (.br 1 [2] (.br 3 [] (.hv 4 [] (.hv 5 [] (.rd 6 (.nil)))) (.hv 4 [2] (.hv 3 [] (.hv 5 [] (.rd 6 (.nil)))))) (.hv 4 [0,2] (.hv 1 [2] (.hv 3 [] (.hv 5 [] (.rd 6 (.nil))))))))) (n:=22) (by kernel_rfl) (by kernel_rfl) (by kernel_rfl) (by kernel_rfl) rfl ?_
 iterate 2 (refine tree_rd rfl (λK hK=>?_);go_simp;refine hK _ ?_;clear hK K)
 refine tree_br rfl ?_ ?_
 ·go_wp2_with fail
  have hbp:Bel W0 _:=bD (bR W0)
  refine(HCf.o _).mono ?_
  rintro e w1 ⟨rfl,hb1⟩
  have HB1:=Hm (bT hbp hb1)
  have hq1:=bHeap HB1.o HB0.o.2.1
  clear hbp hb1 q0 q1 q2 q3 q4 q5 q6
  obtain⟨q0,q1,q2,q3,q4,q5,q6⟩:=cC7 hq1
  have hl1:=hlt hq1
  clear hq1
  go_wp2_with fail
  refine⟨?_,?_⟩
  ·simp only[Again,slotOf]
   go_simp
  refine tree_br rfl ?_ ?_
  ·go_wp2_with fail
   refine(HFn.o _ (bT HB0.o.1 HB1.o)).mono ?_
   unfold FnsPost
   rintro e w2 ⟨hb2,lv,ok2,rfl,hk2,hok2⟩
   obtain⟨A2,c2,rfl,-⟩:=hk2.form
   have HB2:=Hm (bT HB1.o hb2)
   have HK2:=Hm (And.intro hk2 hok2)
   have hs1:w.heap.size≤w1.heap.size:=(bT HB0.o.1 HB1.o).size
   have hw12:=hb2.size
   clear hb2 hk2 hok2 q0 q1 q2 q3 q4 q5 q6
   go_wp2_with fail
   refine⟨?_,?_⟩
   ·exact trivial
   refine tree_hv rfl ?_
   go_wp2_with fail
   refine⟨?_,?_⟩
   ·exact trivial
   refine tree_hv rfl ?_
   go_wp2_with fail
   refine⟨?_,?_⟩
   ·exact trivial
   iterate 1 (refine tree_rd rfl (λK hK=>?_);go_simp;refine hK _ ?_;clear hK K)
   unfold TreeL
   go_wp2_with fail
   have hbX:Bel w2 (w2.alloc (.cells #[.int .i64 st.regs,.int .i64 st.workers,.int .u64 st.t.lease,.int .u64 st.t.wait,.int .u64 st.t.most,.int .i64 st.room,.int .i64 st.box] 33)):=bA (bR _) _
   have hp2:(w2.alloc (.cells #[.int .i64 st.regs,.int .i64 st.workers,.int .u64 st.t.lease,.int .u64 st.t.wait,.int .u64 st.t.most,.int .i64 st.room,.int .i64 st.box] 33)).heap[w2.heap.size]?=some (.cells #[.int .i64 st.regs,.int .i64 st.workers,.int .u64 st.t.lease,.int .u64 st.t.wait,.int .u64 st.t.most,.int .i64 st.room,.int .i64 st.box] 33 (0,0)):=hnew rfl
   have hr2:(w2.alloc (.cells #[.int .i64 st.regs,.int .i64 st.workers,.int .u64 st.t.lease,.int .u64 st.t.wait,.int .u64 st.t.most,.int .i64 st.room,.int .i64 st.box] 33)).heap[q+1]?=some (.cells #[.int .i64 0,.int .i64 0,.int .u64 0,.int .u64 0,.int .u64 0,.int .i64 0,.int .i64 0] 33 (0,0)):=bHeap (bT HB2.o hbX) HB0.o.2.2
   obtain⟨p5,hp5⟩:∃ p5,p5=w2.heap.size:=⟨_,rfl⟩
   rw[←hp5] at hp2⊢
   generalize w2.alloc (.cells #[.int .i64 st.regs,.int .i64 st.workers,.int .u64 st.t.lease,.int .u64 st.t.wait,.int .u64 st.t.most,.int .i64 st.room,.int .i64 st.box] 33)=X at hbX hp2 hr2⊢
   have HBX:=Hm (bT HB2.o hbX)
   have hsX:=hbX.size
   have hs2:=HB2.o.size
   have hq1l:q+1 < w1.heap.size:=by have:=hlt HB0.o.2.2;have:=HB1.o.size;omega
   have hsk:=sk_bel HK2.o.1.sk hbX
   have hbo:∀ b,(ok2 b∨some b=(Value.slice A2 (funcsOf fs).length c2).ownBlock)→w1.heap.size≤b:=by
    rintro b (h|h)
    ·exact HK2.o.2 b h
    ·exact(HK2.o.1.lt_own b h.symm).1
   have hne:p5≠q+1:=by have:=hlt HB0.o.2.2;omega
   have hqp5:w.heap.size≤p5:=by have:=(bT HB0.o.1 HB2.o).size;omega
   clear hp5 hbX
   refine(HN.o X _ _ hsk w1.heap.size (by omega) hbo).mono ?_
   rintro e w5 ⟨x5,ow,h5,jobs,rfl,hb5,how,f5,u5,rfl⟩
   have how1:ow (q+1)=1:=by rw[how (q+1) (by omega),if_pos (by omega)]
   have hsk5:Kd.SK kFunc w5 (λb=>ow b=0) st.fs (.slice A2 (funcsOf fs).length c2):=by
    rw[hfs]
    exact hsk.stay (λb hb hl=>⟨by rw[how b hl,if_neg (by have:=hbo b hb;omega)],hb5.block b hl⟩)
   have hp5':=bHeap hb5 hp2
   have hr5:=bHeap hb5 hr2
   have HW5:=Hm (And.intro (bT (bT HB0.o.1 HBX.o) hb5) (And.intro how1 (And.intro f5 (And.intro u5 (And.intro hsk5 how)))))
   obtain⟨s0,s1,s2,s3,s4,s5,s6⟩:=cC7 hp5'
   obtain⟨r0,r1,r2,r3,r4,r5,r6⟩:=cC7 hr5
   obtain⟨e0,e1,e2,e3,e4,e5,e6⟩:=fF7 hr5
   have HR5:=Hm hr5
   have HHow:Hd (∀ b,b < w.heap.size→ow b=0∨ow b=1):=⟨λb hb=>.inr (by have:=HQ.o;rw[how b (by omega),if_pos (by omega)])⟩
   have hl5:=hlt hp5'
   have hl6:=hlt hr5
   clear hp2 hr2 hsk hbo hb5 how f5 u5 hsk5 how1
   go_wp2_with fail
   refine wp_region_line [.rd 0,.rd 1,.rd 2,.rd 3,.hv 4 [2],.rd 5] (n:=22) (by kernel_rfl) (by kernel_rfl) (by kernel_rfl) (by kernel_rfl) rfl ?_
   iterate 4 (refine line_rd rfl (λK hK=>?_);go_simp;refine hK _ ?_;clear hK K)
   refine line_hv rfl ?_
   go_wp2_with fail
   refine⟨?_,?_⟩
   ·simp only[Again,slotOf]
    go_simp
   iterate 1 (refine line_rd rfl (λK hK=>?_);go_simp;refine hK _ ?_;clear hK K)
   unfold Line
   go_wp2_with fail
   have hO:=oD (oC (oC (oC (oC (oC (oC (oC (Only.refl w5 (λb=>b=q+1)) rfl 0 (.int .i64 st.regs)) rfl 1 (.int .i64 st.workers)) rfl 2 (.int .u64 st.t.lease)) rfl 3 (.int .u64 st.t.wait)) rfl 4 (.int .u64 st.t.most)) rfl 5 (.int .i64 st.room)) rfl 6 (.int .i64 st.box))
   have hr5':=HR5.o
   have hqf:=set_at (set_at (set_at (set_at (set_at (set_at (set_at hr5' 0 (.int .i64 st.regs)) 1 (.int .i64 st.workers)) 2 (.int .u64 st.t.lease)) 3 (.int .u64 st.t.wait)) 4 (.int .u64 st.t.most)) 5 (.int .i64 st.room)) 6 (.int .i64 st.box)
   obtain⟨y0,y1,y2,y3,y4,y5,y6⟩:=cC7 hqf
   exact bodyPost_ret (v:=.tuple #[.pointer (some ⟨x5,0,none⟩),confV st,.slice A2 (funcsOf fs).length c2]) (by simp[results,Tryz.results8,go_sem,confV,y0,y1,y2,y3,y4,y5,y6]) rfl (made_fin HW5.o.1 (by have:=HQ.o;omega) hO HW5.o.2.1 HW5.o.2.2.1 HW5.o.2.2.2.1 HW5.o.2.2.2.2.1 HHow.o)
  ·refine tree_hv rfl ?_
   go_wp2_with fail
   refine⟨?_,?_⟩
   ·simp only[Again,slotOf]
    go_simp
   refine tree_hv rfl ?_
   go_wp2_with fail
   have hbY:Bel w1 (w1.alloc (.cells #[.int .i64 0,.int .i64 0,.int .u64 0,.int .u64 0,.int .u64 0,.int .i64 0,.int .i64 0] 33)):=bA (bR _) _
   have hpY:(w1.alloc (.cells #[.int .i64 0,.int .i64 0,.int .u64 0,.int .u64 0,.int .u64 0,.int .i64 0,.int .i64 0] 33)).heap[w1.heap.size]?=some (.cells #[.int .i64 0,.int .i64 0,.int .u64 0,.int .u64 0,.int .u64 0,.int .i64 0,.int .i64 0] 33 (0,0)):=hnew rfl
   obtain⟨p5,hp5⟩:∃ p5,p5=w1.heap.size:=⟨_,rfl⟩
   have hsY:(w1.alloc (.cells #[.int .i64 0,.int .i64 0,.int .u64 0,.int .u64 0,.int .u64 0,.int .i64 0,.int .i64 0] 33)).heap.size=p5+1:=by simp[hp5]
   rw[←hp5] at hpY⊢
   generalize w1.alloc (.cells #[.int .i64 0,.int .i64 0,.int .u64 0,.int .u64 0,.int .u64 0,.int .i64 0,.int .i64 0] 33)=Y at hbY hpY hsY⊢
   refine(HFn.o Y (bT (bT HB0.o.1 HB1.o) hbY)).mono ?_
   unfold FnsPost
   rintro e w2 ⟨hb2,lv,ok2,rfl,hk2,hok2⟩
   obtain⟨A2,c2,rfl,-⟩:=hk2.form
   have HB2:=Hm (bT (bT HB1.o hbY) hb2)
   have HK2:=Hm (And.intro hk2 hok2)
   have hz2:=bHeap hb2 hpY
   have HZ2:=Hm hz2
   have hw12:=hb2.size
   have hq1l:q+1 < Y.heap.size:=by have:=hlt HB0.o.2.2;have:=HB1.o.size;have:=hbY.size;omega
   have hne:p5≠q+1:=by have:=hlt HB0.o.2.2;have:=HB1.o.size;omega
   have hqp5:w.heap.size≤p5:=by have:=(bT HB0.o.1 HB1.o).size;omega
   have hw1p:w1.heap.size≤p5:=by omega
   obtain⟨z0,z1,z2,z3,z4,z5,z6⟩:=cC7 hz2
   obtain⟨g0,g1,g2,g3,g4,g5,g6⟩:=fF7 hz2
   have hp1Y:p5 < Y.heap.size:=by omega
   have hzl:=hlt hz2
   clear hb2 hk2 hok2 q0 q1 q2 q3 q4 q5 q6 hbY hpY hp5 hz2
   go_wp2_with fail
   refine⟨?_,?_⟩
   ·exact trivial
   refine tree_hv rfl ?_
   go_wp2_with fail
   refine⟨?_,?_⟩
   ·exact trivial
   iterate 1 (refine tree_rd rfl (λK hK=>?_);go_simp;refine hK _ ?_;clear hK K)
   unfold TreeL
   go_wp2_with fail
   have hW0p:W0.heap.size≤p5:=by have:=HB1.o.size;omega
   have hO2:Only w2 (((((((w2.setCell ⟨p5,0,none⟩ (.int .i64 st.regs)).setCell ⟨p5,1,none⟩ (.int .i64 st.workers)).setCell ⟨p5,2,none⟩ (.int .u64 st.t.lease)).setCell ⟨p5,3,none⟩ (.int .u64 st.t.wait)).setCell ⟨p5,4,none⟩ (.int .u64 st.t.most)).setCell ⟨p5,5,none⟩ (.int .i64 st.room)).setCell ⟨p5,6,none⟩ (.int .i64 st.box)) (λb=>b=p5):=oC (oC (oC (oC (oC (oC (oC (Only.refl w2 (λb=>b=p5)) rfl 0 (.int .i64 st.regs)) rfl 1 (.int .i64 st.workers)) rfl 2 (.int .u64 st.t.lease)) rfl 3 (.int .u64 st.t.wait)) rfl 4 (.int .u64 st.t.most)) rfl 5 (.int .i64 st.room)) rfl 6 (.int .i64 st.box)
   have hz2:=HZ2.o
   have hp2:(((((((w2.setCell ⟨p5,0,none⟩ (.int .i64 st.regs)).setCell ⟨p5,1,none⟩ (.int .i64 st.workers)).setCell ⟨p5,2,none⟩ (.int .u64 st.t.lease)).setCell ⟨p5,3,none⟩ (.int .u64 st.t.wait)).setCell ⟨p5,4,none⟩ (.int .u64 st.t.most)).setCell ⟨p5,5,none⟩ (.int .i64 st.room)).setCell ⟨p5,6,none⟩ (.int .i64 st.box)).heap[p5]?=some (.cells #[.int .i64 st.regs,.int .i64 st.workers,.int .u64 st.t.lease,.int .u64 st.t.wait,.int .u64 st.t.most,.int .i64 st.room,.int .i64 st.box] 33 (0,0)):=set_at (set_at (set_at (set_at (set_at (set_at (set_at hz2 0 (.int .i64 st.regs)) 1 (.int .i64 st.workers)) 2 (.int .u64 st.t.lease)) 3 (.int .u64 st.t.wait)) 4 (.int .u64 st.t.most)) 5 (.int .i64 st.room)) 6 (.int .i64 st.box)
   have hr2:(((((((w2.setCell ⟨p5,0,none⟩ (.int .i64 st.regs)).setCell ⟨p5,1,none⟩ (.int .i64 st.workers)).setCell ⟨p5,2,none⟩ (.int .u64 st.t.lease)).setCell ⟨p5,3,none⟩ (.int .u64 st.t.wait)).setCell ⟨p5,4,none⟩ (.int .u64 st.t.most)).setCell ⟨p5,5,none⟩ (.int .i64 st.room)).setCell ⟨p5,6,none⟩ (.int .i64 st.box)).heap[q+1]?=some (.cells #[.int .i64 0,.int .i64 0,.int .u64 0,.int .u64 0,.int .u64 0,.int .i64 0,.int .i64 0] 33 (0,0)):=hO2.heap (bHeap HB2.o HB0.o.2.2) (λe=>hne e.symm)
   generalize ((((((w2.setCell ⟨p5,0,none⟩ (.int .i64 st.regs)).setCell ⟨p5,1,none⟩ (.int .i64 st.workers)).setCell ⟨p5,2,none⟩ (.int .u64 st.t.lease)).setCell ⟨p5,3,none⟩ (.int .u64 st.t.wait)).setCell ⟨p5,4,none⟩ (.int .u64 st.t.most)).setCell ⟨p5,5,none⟩ (.int .i64 st.room)).setCell ⟨p5,6,none⟩ (.int .i64 st.box)=X at hO2 hp2 hr2⊢
   have HBX:=Hm (bO HB2.o hO2 (λb e=>by rw[e];exact hW0p))
   have hsX:=hO2.size
   have hs2:=HB2.o.size
   have hbo:∀ b,(ok2 b∨some b=(Value.slice A2 (funcsOf fs).length c2).ownBlock)→Y.heap.size≤b:=by
    rintro b (h|h)
    ·exact HK2.o.2 b h
    ·exact(HK2.o.1.lt_own b h.symm).1
   have hsk:=HK2.o.1.sk.stay (hO2.stays (λb hb e=>by have:=hbo b hb;omega))
   clear hz2 z0 z1 z2 z3 z4 z5 z6 g0 g1 g2 g3 g4 g5 g6
   refine(HN.o X _ _ hsk Y.heap.size (by omega) hbo).mono ?_
   rintro e w5 ⟨x5,ow,h5,jobs,rfl,hb5,how,f5,u5,rfl⟩
   have how1:ow (q+1)=1:=by rw[how (q+1) (by omega),if_pos (by omega)]
   have hsk5:Kd.SK kFunc w5 (λb=>ow b=0) st.fs (.slice A2 (funcsOf fs).length c2):=by
    rw[hfs]
    exact hsk.stay (λb hb hl=>⟨by rw[how b hl,if_neg (by have:=hbo b hb;omega)],hb5.block b hl⟩)
   have hp5':=bHeap hb5 hp2
   have hr5:=bHeap hb5 hr2
   have HW5:=Hm (And.intro (bT (bT HB0.o.1 HBX.o) hb5) (And.intro how1 (And.intro f5 (And.intro u5 (And.intro hsk5 how)))))
   obtain⟨s0,s1,s2,s3,s4,s5,s6⟩:=cC7 hp5'
   obtain⟨r0,r1,r2,r3,r4,r5,r6⟩:=cC7 hr5
   obtain⟨e0,e1,e2,e3,e4,e5,e6⟩:=fF7 hr5
   have HR5:=Hm hr5
   have HHow:Hd (∀ b,b < w.heap.size→ow b=0∨ow b=1):=⟨λb hb=>.inr (by have:=HQ.o;rw[how b (by omega),if_pos (by omega)])⟩
   have hl5:=hlt hp5'
   have hl6:=hlt hr5
   clear hp2 hr2 hsk hbo hb5 how f5 u5 hsk5 how1
   go_wp2_with fail
   refine wp_region_line [.rd 0,.rd 1,.rd 2,.rd 3,.hv 4 [2],.rd 5] (n:=22) (by kernel_rfl) (by kernel_rfl) (by kernel_rfl) (by kernel_rfl) rfl ?_
   iterate 4 (refine line_rd rfl (λK hK=>?_);go_simp;refine hK _ ?_;clear hK K)
   refine line_hv rfl ?_
   go_wp2_with fail
   refine⟨?_,?_⟩
   ·simp only[Again,slotOf]
    go_simp
   iterate 1 (refine line_rd rfl (λK hK=>?_);go_simp;refine hK _ ?_;clear hK K)
   unfold Line
   go_wp2_with fail
   have hO:=oD (oC (oC (oC (oC (oC (oC (oC (Only.refl w5 (λb=>b=q+1)) rfl 0 (.int .i64 st.regs)) rfl 1 (.int .i64 st.workers)) rfl 2 (.int .u64 st.t.lease)) rfl 3 (.int .u64 st.t.wait)) rfl 4 (.int .u64 st.t.most)) rfl 5 (.int .i64 st.room)) rfl 6 (.int .i64 st.box))
   have hr5':=HR5.o
   have hqf:=set_at (set_at (set_at (set_at (set_at (set_at (set_at hr5' 0 (.int .i64 st.regs)) 1 (.int .i64 st.workers)) 2 (.int .u64 st.t.lease)) 3 (.int .u64 st.t.wait)) 4 (.int .u64 st.t.most)) 5 (.int .i64 st.room)) 6 (.int .i64 st.box)
   obtain⟨y0,y1,y2,y3,y4,y5,y6⟩:=cC7 hqf
   exact bodyPost_ret (v:=.tuple #[.pointer (some ⟨x5,0,none⟩),confV st,.slice A2 (funcsOf fs).length c2]) (by simp[results,Tryz.results8,go_sem,confV,y0,y1,y2,y3,y4,y5,y6]) rfl (made_fin HW5.o.1 (by have:=HQ.o;omega) hO HW5.o.2.1 HW5.o.2.2.1 HW5.o.2.2.2.1 HW5.o.2.2.2.2.1 HHow.o)
 ·refine tree_hv rfl ?_
  go_wp2_with fail
  refine⟨?_,?_⟩
  ·simp only[Again,slotOf]
   go_simp
  refine tree_hv rfl ?_
  go_wp2_with fail
  have hbV:Bel W0 (W0.alloc (.cells #[.int .i64 0,.int .i64 0,.int .u64 0,.int .u64 0,.int .u64 0,.int .i64 0,.int .i64 0] 33)).drew:=bD (bA (bR _) _)
  have hpV:(W0.alloc (.cells #[.int .i64 0,.int .i64 0,.int .u64 0,.int .u64 0,.int .u64 0,.int .i64 0,.int .i64 0] 33)).drew.heap[W0.heap.size]?=some (.cells #[.int .i64 0,.int .i64 0,.int .u64 0,.int .u64 0,.int .u64 0,.int .i64 0,.int .i64 0] 33 (0,0)):=hnew (w:=W0) rfl
  obtain⟨p5,hp5⟩:∃ p5,p5=W0.heap.size:=⟨_,rfl⟩
  have hsV:(W0.alloc (.cells #[.int .i64 0,.int .i64 0,.int .u64 0,.int .u64 0,.int .u64 0,.int .i64 0,.int .i64 0] 33)).drew.heap.size=p5+1:=by rw[hp5];exact World.size_alloc _ _
  rw[←hp5]
  rw[←hp5] at hpV
  generalize (W0.alloc (.cells #[.int .i64 0,.int .i64 0,.int .u64 0,.int .u64 0,.int .u64 0,.int .i64 0,.int .i64 0] 33)).drew=V at hbV hpV hsV⊢
  refine(HCf.o V).mono ?_
  rintro e Y ⟨rfl,hb1⟩
  have HB1:=Hm (bT hbV hb1)
  have hpY:=bHeap hb1 hpV
  have hsY:=hb1.size
  have hq1:=bHeap HB1.o HB0.o.2.1
  clear q0 q1 q2 q3 q4 q5 q6
  obtain⟨q0,q1,q2,q3,q4,q5,q6⟩:=cC7 hq1
  have hl1:=hlt hq1
  have HPY:=Hm hpY
  have HP5:=Hm (And.intro hp5 (And.intro hsV hsY))
  clear hq1 hb1 hbV hpV hp5 hsV hsY hpY
  go_wp2_with fail
  refine⟨?_,?_⟩
  ·simp only[Again,slotOf]
   go_simp
  refine tree_hv rfl ?_
  go_wp2_with fail
  have hpY:=HPY.o
  have hp5:=HP5.o.1
  have hsV:=HP5.o.2.1
  have hsY:=HP5.o.2.2
  have hbY:Bel Y Y:=bR _
  refine(HFn.o Y (bT HB0.o.1 HB1.o)).mono ?_
  unfold FnsPost
  rintro e w2 ⟨hb2,lv,ok2,rfl,hk2,hok2⟩
  obtain⟨A2,c2,rfl,-⟩:=hk2.form
  have HB2:=Hm (bT HB1.o hb2)
  have HK2:=Hm (And.intro hk2 hok2)
  have hz2:=bHeap hb2 hpY
  have HZ2:=Hm hz2
  have hw12:=hb2.size
  have hq1l:q+1 < Y.heap.size:=by have:=hlt HB0.o.2.2;have:=HB1.o.size;have:=hbY.size;omega
  have hne:p5≠q+1:=by have:=hlt HB0.o.2.2;omega
  have hqp5:w.heap.size≤p5:=by have:=HB0.o.1.size;omega
  have hw1p:W0.heap.size≤p5:=by omega
  obtain⟨z0,z1,z2,z3,z4,z5,z6⟩:=cC7 hz2
  obtain⟨g0,g1,g2,g3,g4,g5,g6⟩:=fF7 hz2
  have hp1Y:p5 < Y.heap.size:=by omega
  have hzl:=hlt hz2
  clear hb2 hk2 hok2 q0 q1 q2 q3 q4 q5 q6 hbY hpY hp5 hz2
  go_wp2_with fail
  refine⟨?_,?_⟩
  ·exact trivial
  refine tree_hv rfl ?_
  go_wp2_with fail
  refine⟨?_,?_⟩
  ·exact trivial
  iterate 1 (refine tree_rd rfl (λK hK=>?_);go_simp;refine hK _ ?_;clear hK K)
  unfold TreeL
  go_wp2_with fail
  have hW0p:W0.heap.size≤p5:=by omega
  have hO2:Only w2 (((((((w2.setCell ⟨p5,0,none⟩ (.int .i64 st.regs)).setCell ⟨p5,1,none⟩ (.int .i64 st.workers)).setCell ⟨p5,2,none⟩ (.int .u64 st.t.lease)).setCell ⟨p5,3,none⟩ (.int .u64 st.t.wait)).setCell ⟨p5,4,none⟩ (.int .u64 st.t.most)).setCell ⟨p5,5,none⟩ (.int .i64 st.room)).setCell ⟨p5,6,none⟩ (.int .i64 st.box)) (λb=>b=p5):=oC (oC (oC (oC (oC (oC (oC (Only.refl w2 (λb=>b=p5)) rfl 0 (.int .i64 st.regs)) rfl 1 (.int .i64 st.workers)) rfl 2 (.int .u64 st.t.lease)) rfl 3 (.int .u64 st.t.wait)) rfl 4 (.int .u64 st.t.most)) rfl 5 (.int .i64 st.room)) rfl 6 (.int .i64 st.box)
  have hz2:=HZ2.o
  have hp2:(((((((w2.setCell ⟨p5,0,none⟩ (.int .i64 st.regs)).setCell ⟨p5,1,none⟩ (.int .i64 st.workers)).setCell ⟨p5,2,none⟩ (.int .u64 st.t.lease)).setCell ⟨p5,3,none⟩ (.int .u64 st.t.wait)).setCell ⟨p5,4,none⟩ (.int .u64 st.t.most)).setCell ⟨p5,5,none⟩ (.int .i64 st.room)).setCell ⟨p5,6,none⟩ (.int .i64 st.box)).heap[p5]?=some (.cells #[.int .i64 st.regs,.int .i64 st.workers,.int .u64 st.t.lease,.int .u64 st.t.wait,.int .u64 st.t.most,.int .i64 st.room,.int .i64 st.box] 33 (0,0)):=set_at (set_at (set_at (set_at (set_at (set_at (set_at hz2 0 (.int .i64 st.regs)) 1 (.int .i64 st.workers)) 2 (.int .u64 st.t.lease)) 3 (.int .u64 st.t.wait)) 4 (.int .u64 st.t.most)) 5 (.int .i64 st.room)) 6 (.int .i64 st.box)
  have hr2:(((((((w2.setCell ⟨p5,0,none⟩ (.int .i64 st.regs)).setCell ⟨p5,1,none⟩ (.int .i64 st.workers)).setCell ⟨p5,2,none⟩ (.int .u64 st.t.lease)).setCell ⟨p5,3,none⟩ (.int .u64 st.t.wait)).setCell ⟨p5,4,none⟩ (.int .u64 st.t.most)).setCell ⟨p5,5,none⟩ (.int .i64 st.room)).setCell ⟨p5,6,none⟩ (.int .i64 st.box)).heap[q+1]?=some (.cells #[.int .i64 0,.int .i64 0,.int .u64 0,.int .u64 0,.int .u64 0,.int .i64 0,.int .i64 0] 33 (0,0)):=hO2.heap (bHeap HB2.o HB0.o.2.2) (λe=>hne e.symm)
  generalize ((((((w2.setCell ⟨p5,0,none⟩ (.int .i64 st.regs)).setCell ⟨p5,1,none⟩ (.int .i64 st.workers)).setCell ⟨p5,2,none⟩ (.int .u64 st.t.lease)).setCell ⟨p5,3,none⟩ (.int .u64 st.t.wait)).setCell ⟨p5,4,none⟩ (.int .u64 st.t.most)).setCell ⟨p5,5,none⟩ (.int .i64 st.room)).setCell ⟨p5,6,none⟩ (.int .i64 st.box)=X at hO2 hp2 hr2⊢
  have HBX:=Hm (bO HB2.o hO2 (λb e=>by rw[e];exact hW0p))
  have hsX:=hO2.size
  have hs2:=HB2.o.size
  have hbo:∀ b,(ok2 b∨some b=(Value.slice A2 (funcsOf fs).length c2).ownBlock)→Y.heap.size≤b:=by
   rintro b (h|h)
   ·exact HK2.o.2 b h
   ·exact(HK2.o.1.lt_own b h.symm).1
  have hsk:=HK2.o.1.sk.stay (hO2.stays (λb hb e=>by have:=hbo b hb;omega))
  clear hz2 z0 z1 z2 z3 z4 z5 z6 g0 g1 g2 g3 g4 g5 g6
  refine(HN.o X _ _ hsk Y.heap.size (by omega) hbo).mono ?_
  rintro e w5 ⟨x5,ow,h5,jobs,rfl,hb5,how,f5,u5,rfl⟩
  have how1:ow (q+1)=1:=by rw[how (q+1) (by omega),if_pos (by omega)]
  have hsk5:Kd.SK kFunc w5 (λb=>ow b=0) st.fs (.slice A2 (funcsOf fs).length c2):=by
   rw[hfs]
   exact hsk.stay (λb hb hl=>⟨by rw[how b hl,if_neg (by have:=hbo b hb;omega)],hb5.block b hl⟩)
  have hp5':=bHeap hb5 hp2
  have hr5:=bHeap hb5 hr2
  have HW5:=Hm (And.intro (bT (bT HB0.o.1 HBX.o) hb5) (And.intro how1 (And.intro f5 (And.intro u5 (And.intro hsk5 how)))))
  obtain⟨s0,s1,s2,s3,s4,s5,s6⟩:=cC7 hp5'
  obtain⟨r0,r1,r2,r3,r4,r5,r6⟩:=cC7 hr5
  obtain⟨e0,e1,e2,e3,e4,e5,e6⟩:=fF7 hr5
  have HR5:=Hm hr5
  have HHow:Hd (∀ b,b < w.heap.size→ow b=0∨ow b=1):=⟨λb hb=>.inr (by have:=HQ.o;rw[how b (by omega),if_pos (by omega)])⟩
  have hl5:=hlt hp5'
  have hl6:=hlt hr5
  clear hp2 hr2 hsk hbo hb5 how f5 u5 hsk5 how1
  go_wp2_with fail
  refine wp_region_line [.rd 0,.rd 1,.rd 2,.rd 3,.hv 4 [2],.rd 5] (n:=22) (by kernel_rfl) (by kernel_rfl) (by kernel_rfl) (by kernel_rfl) rfl ?_
  iterate 4 (refine line_rd rfl (λK hK=>?_);go_simp;refine hK _ ?_;clear hK K)
  refine line_hv rfl ?_
  go_wp2_with fail
  refine⟨?_,?_⟩
  ·simp only[Again,slotOf]
   go_simp
  iterate 1 (refine line_rd rfl (λK hK=>?_);go_simp;refine hK _ ?_;clear hK K)
  unfold Line
  go_wp2_with fail
  have hO:=oD (oC (oC (oC (oC (oC (oC (oC (Only.refl w5 (λb=>b=q+1)) rfl 0 (.int .i64 st.regs)) rfl 1 (.int .i64 st.workers)) rfl 2 (.int .u64 st.t.lease)) rfl 3 (.int .u64 st.t.wait)) rfl 4 (.int .u64 st.t.most)) rfl 5 (.int .i64 st.room)) rfl 6 (.int .i64 st.box))
  have hr5':=HR5.o
  have hqf:=set_at (set_at (set_at (set_at (set_at (set_at (set_at hr5' 0 (.int .i64 st.regs)) 1 (.int .i64 st.workers)) 2 (.int .u64 st.t.lease)) 3 (.int .u64 st.t.wait)) 4 (.int .u64 st.t.most)) 5 (.int .i64 st.room)) 6 (.int .i64 st.box)
  obtain⟨y0,y1,y2,y3,y4,y5,y6⟩:=cC7 hqf
  exact bodyPost_ret (v:=.tuple #[.pointer (some ⟨x5,0,none⟩),confV st,.slice A2 (funcsOf fs).length c2]) (by simp[results,Tryz.results8,go_sem,confV,y0,y1,y2,y3,y4,y5,y6]) rfl (made_fin HW5.o.1 (by have:=HQ.o;omega) hO HW5.o.2.1 HW5.o.2.2.1 HW5.o.2.2.2.1 HW5.o.2.2.2.2.1 HHow.o)
structure NxIn (w:World) (p:Nat) (l:List UInt8) (A:Option Addr) (ca:Nat):Prop where
 head:w.heap[p]?=some (.cells ([.slice A l.length ca]:List Value).toArray 38 (0,0))
 bytes:Bytes w A l
 below_:0 < l.length→∀ a,A=some a→a.block < p
 cap:l.length≤ca
 small:l.length≤200
def NxAt (w:World) (p:Nat) (l:List UInt8):Prop:=∃ A ca,NxIn w p l A ca
theorem NxAt.only {w w':World} {p:Nat} {l:List UInt8} {F:Nat→Prop} (h:NxAt w p l) (hs:Only w w' F) (hF:∀ b,b≤p→¬F b):NxAt w' p l:=by
 obtain⟨A,ca,h⟩:=h
 refine⟨A,ca,hs.heap h.head (hF _ (Nat.le_refl _)),?_,h.below_,h.cap,h.small⟩
 by_cases h0:0 < l.length
 ·exact row_only h.bytes hs (λa ha=>hF _ (Nat.le_of_lt (h.below_ h0 a ha)))
 ·obtain rfl:l=[]:=List.eq_nil_of_length_eq_zero (by omega)
  exact Bytes.nil _ _
structure NxStep (w w':World) (p:Nat) (l:List UInt8):Prop where
 only:Only w w' (λb=>b=p)
 rd:NxAt w' p l
theorem nx_tail {w:World} {p bl off off' ca:Nat} {b:UInt8} {l:List UInt8} (h:NxIn w p (b :: l) (some ⟨bl,off,none⟩) ca) (ho:off'=off+1∨l=[]):NxStep w (w.setCell ⟨p,0,none⟩ (.slice (some ⟨bl,off',none⟩) l.length (ca-1))) p l:=by
 have hbl:bl < p:=h.below_ (by simp) _ rfl
 refine⟨oC (F:=λb=>b=p) (Only.refl w _) rfl _ _,some ⟨bl,off',none⟩,ca-1,by rw[Go.Joins.block_setCell h.head _];rfl,?_,λ_ a ha=>by cases ha;exact hbl,by have:=h.cap;simp at this;omega,by have:=h.small;simp at this;omega⟩
 rcases ho with rfl|rfl
 ·intro j hj
  obtain⟨b',o',e,hc⟩:=h.bytes (j+1) (by simpa using hj)
  simp only[Option.some.injEq,Addr.mk.injEq,and_true] at e
  obtain⟨rfl,rfl⟩:=e
  refine⟨bl,off+1,rfl,?_⟩
  simp only[List.map_cons,List.getElem_cons_succ] at hc
  rw[show off+1+j=off+(j+1) by omega,←hc]
  exact cell_of_heap (heap_setCell_other w ⟨p,0,none⟩ bl _ (by simp only;omega))
 ·exact Bytes.nil _ _
theorem next_any' (p:Nat) (l:List UInt8) (w:World) (h:NxAt w p l) :
  Calls Tryz.prog 79 #[.pointer (some ⟨p,0,none⟩)] w λe w'=>e=.returned (.int .i64 (chd l))∧NxStep w w' p l.tail:=by
 have H:=Hm h
 obtain⟨A,ca,hi⟩:=h
 have HI:=Hm hi
 have c0:w.cell? ⟨p,0,none⟩=some (.slice A l.length ca):=cell_at hi.head
 have f0:=free_at hi.head 0
 have hp:=hlt hi.head
 cases l with
 |nil =>
  clear hi
  go_enter Tryz.func79,Tryz.ntmps79
  go_wp2_with fail
  go_ret
  exact⟨rfl,Only.refl _ _,H.o⟩
 |cons b l =>
  obtain⟨bl,off,rfl,hc⟩:=hi.bytes 0 (by simp)
  simp only[List.map_cons,List.getElem_cons_zero,Nat.add_zero] at hc
  unfold byteV at hc
  have hca:=hi.cap
  have hsm:=hi.small
  have hb256:(b.toNat:Int) < 256:=by have:=b.toNat_lt;omega
  have HB:=Hm hb256
  have hw2:IntKind.i64.wrap (b.toNat:Int)=(b.toNat:Int):=Go.IntWalk.i64_in _ (by have:=HB.o;omega)
  have hl1:¬(l.length+1=0):=by omega
  simp only[List.length_cons] at c0 hca hsm
  clear hi hb256
  generalize hq:b.toNat=q at *
  have HQ:=Hm hq
  clear hq
  go_enter Tryz.func79,Tryz.ntmps79
  go_wp2_with fail
  ·go_ret
   refine⟨by rw[←HQ.o];rfl,?_⟩
   have:=nx_tail (off':=off) HI.o (.inr (List.eq_nil_of_length_eq_zero (by omega)))
   rw[show ca-1=0 by omega] at this
   exact this
  ·go_ret
   refine⟨by rw[←HQ.o];rfl,nx_tail HI.o (.inl rfl)⟩
structure NI (X:World) (x:Nat) (okI:Nat→Prop) (ys:List Ins) (vI:Value) (es:List Value):Prop where
 var:X.heap[x]?=some (.cells (vI :: es).toArray 97 (0,0))
 inn:KRow kIns X (x+1) 91 okI ys vI
 ok:∀ b,okI b→x < b
section
variable {X X':World} {x:Nat} {okI okI':Nat→Prop} {ys ys':List Ins} {vI vI':Value} {es:List Value}
theorem NI.lt (h:NI X x okI ys vI es):x < X.heap.size:=hlt h.var
theorem NI.own (h:NI X x okI ys vI es) {b:Nat} (hb:vI.ownBlock=some b):x < b∧b < X.heap.size:=h.inn.lt_own b hb
theorem NI.only {F:Nat→Prop} (h:NI X x okI ys vI es) (hs:Only X X' F) (hx:¬F x) (hv:∀ b,vI.ownBlock=some b→¬F b) (ho:∀ b,okI b→¬F b):NI X' x okI ys vI es :=
 ⟨hs.heap h.var hx,h.inn.only hs hv ho,h.ok⟩
theorem NI.bel (h:NI X x okI ys vI es) (hb:Bel X X'):NI X' x okI ys vI es:=h.only (F:=λ_=>False) (Only.bel hb) (λh=>h) (λ_ _ h=>h) (λ_ _ h=>h)
theorem NI.push (h:NI X x okI ys vI es) (hg:X.grownBy X' vI.ownBlock) (hi:KRow kIns X' (x+1) 91 okI' ys' vI') (ho:∀ b,okI' b→x < b):NI (X'.setCell ⟨x,0,none⟩ vI') x okI' ys' vI' es:=by
 have hs:Only X X' (λb=>vI.ownBlock=some b):=Only.grown hg (λg e=>e)
 have hs2:Only X' (X'.setCell ⟨x,0,none⟩ vI') (λb=>b=x):=Only.grown (grownBy_cell X' x 0 vI') (λg e=>by cases e;rfl)
 have hvar:X'.heap[x]?=some (.cells (vI :: es).toArray 97 (0,0)):=hs.heap h.var (λe=>by have:=(h.own e).1;omega)
 exact⟨by have:=set_at hvar 0 vI';simpa using this,hi.only hs2 (λb hb e=>by have:=(hi.lt_own b hb).1;omega) (λb hb e=>by have:=ho b hb;omega),ho⟩
end
def NFill (w w':World) (x:Nat) (okI:Nat→Prop) (ys:List Ins) (vI:Value) (es:List Value) (v:Int) (r:Nat):Prop :=
 ∃ vI',NI w' x okI (ys++[fillI v r]) vI' es∧Only w w' (λb=>b=x∨vI.ownBlock=some b)∧(vI'.ownBlock=vI.ownBlock∨∃ g,vI'.ownBlock=some g∧w.heap.size≤g)
theorem fill_any' (x:Nat) (okI:Nat→Prop) (ys:List Ins) (vI:Value) (es:List Value) (hes:es.length=4) (v:Int) (r:Nat) (hv:(Lit.int .i64 v).wf=true) (hr:r < 1000) (hys:ys.length≤1000) (w:World) (h:NI w x okI ys vI es) :
  Calls Tryz.prog 80 #[.int .i64 v,.int .i64 r,.pointer (some ⟨x,0,none⟩)] w λe w'=>e=.returned (.int .i64 r)∧NFill w w' x okI ys vI es v r:=by
 have H:=Hm h
 obtain⟨A,c,rfl,-,-,-⟩:=h.inn.form
 have HL:=Hm hys
 have c0:w.cell? ⟨x,0,none⟩=some (.slice A ys.length c):=cell_at h.var
 have hx:=h.lt
 have hK:∀ (w':World),kIns.K w' okI (fillI v r) [.int .u8 8,.int .u8 0,.int .i64 r,.int .i64 v,.int .i64 0,.int .i64 0,.slice none 0 0]:=λw' =>
  kIns_mk (i:=fillI v r) ⟨wf8.2 (by simp[fillI]),wf8.2 (by simp[fillI]),wf64.2 (by simp[fillI];omega),hv,wf64.2 (by simp[fillI]),wf64.2 (by simp[fillI])⟩ (Kd.SK.nil 0 (Nat.zero_le _) none)
 have HK:=Hm hK
 have HW:w.heap.size=w.heap.size:=rfl
 clear h hys hK hv
 go_enter Tryz.func80,Tryz.ntmps80
 go_wp2_with (first
  |(at_builtin;refine appK iIns Tryz.underlying92 rfl (.tmp 7) (.tmp 11) rfl rfl (H.o.inn.bel (bA (bR _) (.cells #[.int .u8 8,.int .u8 0,.int .i64 r,.int .i64 v,.int .i64 0,.int .i64 0,.slice none 0 0] 91))) (show x+1≤(w.alloc _).heap.size by simp;omega) (q:=w.heap.size) rfl (row_new _ _ _ _) (HK.o _) (show (ys.length+1)*64≤140737488355328 by have:=HL.o;omega) ?_)
  |fail)
 intro v7 X4 hk7 hg7 hw7
 have hB:=H.o.bel (bA (bR w) (.cells #[.int .u8 8,.int .u8 0,.int .i64 r,.int .i64 v,.int .i64 0,.int .i64 0,.slice none 0 0] 91))
 have hP:=Hm (hB.push hg7 hk7 H.o.ok)
 have hvar:X4.heap[x]?=some (.cells (.slice A ys.length c :: es).toArray 97 (0,0)):=by
  rw[hg7.block x (by simp;omega) (λe=>by have:=(H.o.own e.symm).1;omega)]
  exact hB.var
 have c1:X4.cell? ⟨x,0,none⟩=some (.slice A ys.length c):=cell_at hvar
 have f1:=free_at hvar 0
 have hx4:=hlt hvar
 have HO:Hd (Only w (X4.setCell ⟨x,0,none⟩ v7) (λb=>b=x∨(Value.slice A ys.length c).ownBlock=some b)):=⟨oC (Only.belLeft (bA (bR w) _) (Only.grown (F:=λb=>b=x∨(Value.slice A ys.length c).ownBlock=some b) hg7 (λg e=>.inr e))) (.inl rfl) _ _⟩
 have HW:Hd (v7.ownBlock=(Value.slice A ys.length c).ownBlock∨∃ g,v7.ownBlock=some g∧w.heap.size≤g):=⟨by
  rcases hw7 with h|h
  ·exact .inl h
  ·exact .inr ⟨_,h,by simp⟩⟩
 obtain⟨A7,c7,rfl,-,-,-⟩:=hk7.form
 have hl1:(ys++[fillI v r]).length=ys.length+1:=by simp
 rw[hl1] at hP HO HW⊢
 clear hB hg7 hw7 hk7 hvar HK hl1
 go_wp2_with fail
 go_ret
 exact⟨rfl,_,hP.o,HO.o,HW.o⟩
theorem nvL_snoc (regs:Nat) (is:List Ins) (l:List UInt8) (i:Ins):nvL regs (is++[i]) l=nvL regs is l++nvIns regs (chd (l.drop is.length)) i:=by
 induction is generalizing l with
 |nil=>simp[nvL]
 |cons a r ih =>
  simp only[List.cons_append,nvL,ih,List.append_assoc,List.length_cons]
  congr 3
  cases l<;>simp
theorem nvL_take (regs:Nat) (is:List Ins) (l:List UInt8) (k:Nat) (h:k < is.length):nvL regs (is.take (k+1)) l=nvL regs (is.take k) l++nvIns regs (chd (l.drop k)) is[k]:=by
 rw[take_snoc' is k h,nvL_snoc]
 rw[show (is.take k).length=k by simp;omega]
def nvLeft:List Block→List UInt8→List UInt8
 |[],l=>l
 |b :: r,l=>nvLeft r (nvRest b l)
theorem nvLeft_snoc (g:List Block) (l:List UInt8) (b:Block):nvLeft (g++[b]) l=nvRest b (nvLeft g l):=by
 induction g generalizing l with
 |nil=>rfl
 |cons a r ih=>exact ih _
theorem nvBlocks_snoc (regs:Nat) (g:List Block) (l:List UInt8) (b:Block):nvBlocks regs (g++[b]) l=nvBlocks regs g l++[nvBlock regs b (nvLeft g l)]:=by
 induction g generalizing l with
 |nil=>rfl
 |cons a r ih=>simp only[List.cons_append,nvBlocks,nvLeft,ih]
theorem nvBlocks_len' (regs:Nat) (g:List Block) (l:List UInt8):(nvBlocks regs g l).length=g.length:=by
 induction g generalizing l with
 |nil=>rfl
 |cons a r ih=>simp[nvBlocks,ih]
theorem homeL_snoc (regs n:Nat):homeL regs (n+1)=homeL regs n++[⟨(n:Int),(regs:Int)+(n:Int)⟩]:=by
 unfold homeL
 rw[List.range_succ,List.map_append]
 rfl
theorem fillsA_snoc (k:Nat) (l:List Int) (a:Int):fillsA k (l++[a])=fillsA k l++[fillI a (k+l.length)]:=by
 induction l generalizing k with
 |nil=>rfl
 |cons b r ih=>simp only[List.cons_append,fillsA,ih,List.length_cons];rw[show k+1+r.length=k+(r.length+1) by omega]
theorem fillsA_len (k:Nat) (l:List Int):(fillsA k l).length=l.length:=by
 induction l generalizing k with
 |nil=>rfl
 |cons b r ih=>simp[fillsA,ih]
theorem upTo_snoc (n:Nat):upTo (n+1)=upTo n++[(n:Int)]:=by
 unfold upTo
 rw[List.range_succ,List.map_append]
 rfl
section
variable {w:World} {ops:Array Oper} {rest:List Oper} {o:Oper} {a:Act} {Q:Exit→Act→World→Prop} {α:Type} {k:Kd α}
theorem appKs {e by_:Nat} {z:Value} (hI:EI e k.size by_ z) {t:TypeId} (ht:Tryz.prog.underlying t=some (.slice e)) (hgd:o.guard=none) (s x:Operand) (ho:o.op=.call { callee:=.builtin .append,args:=#[s,x],argTypes:=#[t,t] })
  {base:Nat} {v:Value} {ok:Nat→Prop} {xs:List α} (hs:a.eval s=v) (h:KRow k w base e ok xs v) (hbase:base≤w.heap.size)
  {q c:Nat} {ys:List α} {cs:List Value} (hx:a.eval x=.slice (some ⟨q,0,none⟩) ys.length c) (hnews:Row w (some ⟨q,0,none⟩) cs) (hy:k.All w ok ys cs) (hb:(xs.length+ys.length)*by_≤140737488355328)
  (hnext:∀ v' w',KRow k w' base e ok (xs++ys) v'→w.grownBy w' v.ownBlock→(v'.ownBlock=v.ownBlock∨v'.ownBlock=some w.heap.size)→wpList Tryz.prog ops Q rest (a.put o.dst v') w'):wpList Tryz.prog ops Q (o :: rest) a w:=by
 obtain⟨⟨vs,h3,h4⟩,h5,h6⟩:=h
 refine appW hI ht hgd s x ho hs h3 hbase hx hnews hy.len hy.one hb λv' w' ho' hg hw=>?_
 have hst:Stays w w' ok ok:=Stays.grown hg h5
 refine hnext v' w' ⟨⟨vs++cs,by simpa using ho',(h4.append hy).stay hst⟩,λb hb e=>?_,λb hb=>Nat.lt_of_lt_of_le (h6 b hb) hg.size⟩ hg hw
 rcases hw with hw|hw
 ·exact h5 b hb (by rw[←hw];exact e)
 ·rw[hw] at e
  have:=h6 b hb
  simp at e
  omega
end
theorem row_new' (w:World) (vs:List Value) (t:TypeId) (q:Nat) (hq:q=w.heap.size):Row (w.alloc (.cells vs.toArray t (0,0))) (some ⟨q,0,none⟩) vs:=by subst hq;exact row_new w vs t (0,0)
theorem all_pair {w w':World} {ok ok':Nat→Prop}:∀ {l:List PairV} {vs:List Value},kPair.All w ok l vs→kPair.All w' ok' l vs
 |[],vs,h=>h
 |p :: r,vs,⟨cs,rest,e,h1,h2⟩=>⟨cs,rest,e,by obtain⟨a,b,rfl⟩:=kPair_open h1;exact kPair_mk a b,all_pair h2⟩
theorem NI.push2 {X X':World} {x:Nat} {okI okI':Nat→Prop} {ys ys':List Ins} {vI vI':Value} {es:List Value} (h:NI X x okI ys vI es) (hg:X.grownBy X' vI.ownBlock) (hi:KRow kIns X' (x+1) 91 okI' ys' vI') (ho:∀ b,okI' b→x < b):NI (X'.setCell ⟨x,0,none⟩ vI') x okI' ys' vI' es:=h.push hg hi ho
structure NO (w X:World) (p q c:Nat) (l:List UInt8) (pr:Int) (V regs:Nat) (vh:Value) (ok:Nat→Prop) (xs:List Block) (v:Value) (okc:Nat→Prop) (cs:List (List PairV)) (vc:Value) (m:Nat):Prop where
 bel:Bel w X
 rd:NxAt X p l
 wp:w.heap.size≤p
 pq:p < q
 qc:q < c
 cm:c < m
 mx:m≤X.heap.size
 res:X.heap[q]?=some (.cells ([.int .i64 0,.int .i64 0,.int .i64 0,.slice none 0 0]:List Value).toArray 59 (0,0))
 cd:X.heap[c]?=some (.cells ([.int .i64 pr,.int .i64 regs,.int .i64 V,v]:List Value).toArray 59 (0,0))
 hom:KRow kPair X (c+1) 119 (λ_=>False) (homeL regs V) vh
 o:KRow kBlock X (c+1) 97 ok xs v
 cer:KRow kPairs X (c+1) 117 okc cs vc
 ok_:∀ b,ok b→c < b∧b < m∧vc.ownBlock≠some b
 okc_:∀ b,okc b→c < b∧b < m∧v.ownBlock≠some b
 ah:∀ b,vh.ownBlock=some b→b < m∧v.ownBlock≠some b∧vc.ownBlock≠some b
 ac:∀ b,vc.ownBlock=some b→b < m∧v.ownBlock≠some b
 av:∀ b,v.ownBlock=some b→b < m
section
variable {w X X':World} {p q c m:Nat} {l l':List UInt8} {pr:Int} {V regs:Nat} {vh v vc:Value} {ok okc:Nat→Prop} {xs:List Block} {cs:List (List PairV)}
theorem NO.only {F:Nat→Prop} (h:NO w X p q c l pr V regs vh ok xs v okc cs vc m) (hs:Only X X' F) (hF:∀ b,F b→b=p∨m≤b) (hm:NxAt X' p l'):NO w X' p q c l' pr V regs vh ok xs v okc cs vc m:=by
 have h1:=h.wp;have h2:=h.pq;have h3:=h.qc;have h4:=h.cm;have h5:=h.mx
 have hw:=h.bel.size
 have hz:=hs.size
 exact { h with
  bel:=bO h.bel hs (λb hb=>by rcases hF b hb with e|e<;>omega)
  rd:=hm
  mx:=by omega
  res:=hs.heap h.res (λe=>by rcases hF q e with e|e<;>omega)
  cd:=hs.heap h.cd (λe=>by rcases hF c e with e|e<;>omega)
  hom:=h.hom.only hs (λb hb e=>by have h9:=(h.ah b hb).1;have h8:=(h.hom.lt_own b hb).1;rcases hF b e with e|e<;>omega) (λb hb=>hb.elim)
  o:=h.o.only hs (λb hb e=>by have h9:=h.av b hb;have h8:=(h.o.lt_own b hb).1;rcases hF b e with e|e<;>omega) (λb hb e=>by have h9:=h.ok_ b hb;rcases hF b e with e|e<;>omega)
  cer:=h.cer.only hs (λb hb e=>by have h9:=(h.ac b hb).1;have h8:=(h.cer.lt_own b hb).1;rcases hF b e with e|e<;>omega) (λb hb e=>by have h9:=h.okc_ b hb;rcases hF b e with e|e<;>omega) }
theorem NO.above {F:Nat→Prop} (h:NO w X p q c l pr V regs vh ok xs v okc cs vc m) (hs:Only X X' F) (hF:∀ b,F b→m≤b):NO w X' p q c l pr V regs vh ok xs v okc cs vc m:=by
 have h2:=h.pq;have h3:=h.qc;have h4:=h.cm
 exact h.only hs (λb hb=>.inr (hF b hb)) (h.rd.only hs (λb hb e=>by have:=hF b e;omega))
theorem NO.belN (h:NO w X p q c l pr V regs vh ok xs v okc cs vc m) (hb:Bel X X'):NO w X' p q c l pr V regs vh ok xs v okc cs vc m:=h.above (F:=λ_=>False) (Only.bel hb) (λ_ e=>e.elim)
theorem NO.next (h:NO w X p q c l pr V regs vh ok xs v okc cs vc m) (hs:NxStep X X' p l'):NO w X' p q c l' pr V regs vh ok xs v okc cs vc m:=h.only hs.only (λb hb=>.inl hb) hs.rd
theorem NO.up (h:NO w X p q c l pr V regs vh ok xs v okc cs vc m):NO w X p q c l pr V regs vh ok xs v okc cs vc X.heap.size:=by
 have h5:=h.mx
 exact { h with
  cm:=Nat.lt_of_lt_of_le h.cm h5
  mx:=Nat.le_refl _
  ok_:=λb hb=>⟨(h.ok_ b hb).1,Nat.lt_of_lt_of_le (h.ok_ b hb).2.1 h5,(h.ok_ b hb).2.2⟩
  okc_:=λb hb=>⟨(h.okc_ b hb).1,Nat.lt_of_lt_of_le (h.okc_ b hb).2.1 h5,(h.okc_ b hb).2.2⟩
  ah:=λb hb=>⟨Nat.lt_of_lt_of_le (h.ah b hb).1 h5,(h.ah b hb).2⟩
  ac:=λb hb=>⟨Nat.lt_of_lt_of_le (h.ac b hb).1 h5,(h.ac b hb).2⟩
  av:=λb hb=>Nat.lt_of_lt_of_le (h.av b hb) h5 }
end
structure NS (X:World) (m x ii ui:Nat) (bc:List Value) (okI:Nat→Prop) (ys:List Ins) (vI:Value) (es:List Value) (ic uc:List Value):Prop where
 ni:NI X x okI ys vI es
 mb:X.heap[m]?=some (.cells bc.toArray 97 (0,0))
 mi:X.heap[ii]?=some (.cells ic.toArray 91 (0,0))
 mu:X.heap[ui]?=some (.cells uc.toArray 91 (0,0))
 mx:m < x
 xi:x < ii
 iu:ii < ui
 ow:∀ b,vI.ownBlock=some b→b≠ii∧b≠ui
 okI_:∀ b,okI b→b≠ii∧b≠ui
section
variable {X X':World} {m x ii ui:Nat} {bc ic uc es:List Value} {okI:Nat→Prop} {ys:List Ins} {vI:Value}
theorem NS.only {F:Nat→Prop} (h:NS X m x ii ui bc okI ys vI es ic uc) (hs:Only X X' F) (hF:∀ b,F b→b < m):NS X' m x ii ui bc okI ys vI es ic uc:=by
 have h1:=h.mx;have h2:=h.xi;have h3:=h.iu
 exact { h with
  ni:=h.ni.only hs (λe=>by have:=hF x e;omega) (λb hb e=>by have:=hF b e;have:=(h.ni.own hb).1;omega) (λb hb e=>by have:=hF b e;have:=h.ni.ok b hb;omega)
  mb:=hs.heap h.mb (λe=>by have:=hF m e;omega)
  mi:=hs.heap h.mi (λe=>by have:=hF ii e;omega)
  mu:=hs.heap h.mu (λe=>by have:=hF ui e;omega) }
theorem NS.onlyG {F:Nat→Prop} (h:NS X m x ii ui bc okI ys vI es ic uc) (hs:Only X X' F) (hF:∀ b,F b→ui < b∧vI.ownBlock≠some b∧¬okI b):NS X' m x ii ui bc okI ys vI es ic uc:=by
 have h1:=h.mx;have h2:=h.xi;have h3:=h.iu
 exact { h with
  ni:=h.ni.only hs (λe=>by have:=(hF x e).1;omega) (λb hb e=>(hF b e).2.1 hb) (λb hb e=>(hF b e).2.2 hb)
  mb:=hs.heap h.mb (λe=>by have:=(hF m e).1;omega)
  mi:=hs.heap h.mi (λe=>by have:=(hF ii e).1;omega)
  mu:=hs.heap h.mu (λe=>by have:=(hF ui e).1;omega) }
theorem NS.belN (h:NS X m x ii ui bc okI ys vI es ic uc) (hb:Bel X X'):NS X' m x ii ui bc okI ys vI es ic uc:=h.only (F:=λ_=>False) (Only.bel hb) (λ_ e=>e.elim)
theorem NS.setU (h:NS X m x ii ui bc okI ys vI es ic uc) (k:Nat) (a:Value):NS (X.setCell ⟨ui,k,none⟩ a) m x ii ui bc okI ys vI es ic (uc.set k a):=by
 have h1:=h.mx;have h2:=h.xi;have h3:=h.iu
 have hs:Only X (X.setCell ⟨ui,k,none⟩ a) (λb=>b=ui):=oC (F:=λb=>b=ui) (Only.refl X _) rfl _ _
 exact { h with
  ni:=h.ni.only hs (by omega) (λb hb e=>(h.ow b hb).2 e) (λb hb e=>(h.okI_ b hb).2 e)
  mb:=hs.heap h.mb (by omega)
  mi:=hs.heap h.mi (by omega)
  mu:=set_at h.mu k a }
theorem NS.fill {v:Int} {r:Nat} (h:NS X m x ii ui bc okI ys vI es ic uc) (hf:NFill X X' x okI ys vI es v r):∃ vI',NS X' m x ii ui bc okI (ys++[fillI v r]) vI' es ic uc∧Only X X' (λb=>b=x∨vI.ownBlock=some b)∧(vI'.ownBlock=vI.ownBlock∨∃ g,vI'.ownBlock=some g∧X.heap.size≤g):=by
 obtain⟨vI',hn,hs,hw⟩:=hf
 have h1:=h.mx;have h2:=h.xi;have h3:=h.iu
 have hiz:=hlt h.mi;have huz:=hlt h.mu
 refine⟨vI',{ h with
  ni:=hn
  mb:=hs.heap h.mb (by rintro (e|e);omega;have:=(h.ni.own e).1;omega)
  mi:=hs.heap h.mi (by rintro (e|e);omega;exact(h.ow _ e).1 rfl)
  mu:=hs.heap h.mu (by rintro (e|e);omega;exact(h.ow _ e).2 rfl)
  ow:=λb hb=>?_ },hs,hw⟩
 rcases hw with e|⟨g,e,hg⟩
 ·exact h.ow b (e ▸ hb)
 ·rw[e] at hb
  cases hb
  omega
theorem NS.fillAbove (h:NS X m x ii ui bc okI ys vI es ic uc):∀ b,(b=x∨vI.ownBlock=some b)→m≤b:=by
 rintro b (e|e)
 ·have:=h.mx;omega
 ·have:=(h.ni.own e).1;have:=h.mx;omega
end
theorem NI.put {X:World} {x:Nat} {okI:Nat→Prop} {ys:List Ins} {vI:Value} {es:List Value} (h:NI X x okI ys vI es) (k:Nat) (a:Value):NI (X.setCell ⟨x,k+1,none⟩ a) x okI ys vI (es.set k a):=by
 have hs:Only X (X.setCell ⟨x,k+1,none⟩ a) (λb=>b=x):=oC (F:=λb=>b=x) (Only.refl X _) rfl _ _
 exact⟨by have:=set_at h.var (k+1) a;simpa using this,h.inn.only hs (λb hb e=>by have:=(h.own hb).1;omega) (λb hb e=>by have:=h.ok b hb;omega),h.ok⟩
theorem NO.push {w X Xa X7 X8 X9:World} {p q c m:Nat} {l:List UInt8} {pr:Int} {V regs:Nat} {vh v vc v7 v9:Value} {ok okc ok1 okc1:Nat→Prop} {xs xs':List Block} {cs cs':List (List PairV)} (h:NO w X p q c l pr V regs vh ok xs v okc cs vc m)
  (B0:Bel X Xa) (hg7:Xa.grownBy X7 v.ownBlock) (hk7:KRow kBlock X7 (c+1) 97 ok1 xs' v7) (hw7:v7.ownBlock=v.ownBlock∨v7.ownBlock=some Xa.heap.size) (h1:∀ b,ok1 b→ok b∨(m≤b∧b < Xa.heap.size))
  (B8:Bel X7 X8) (hg9:X8.grownBy X9 vc.ownBlock) (hk9:KRow kPairs X9 (c+1) 117 okc1 cs' v9) (hw9:v9.ownBlock=vc.ownBlock∨v9.ownBlock=some X8.heap.size) (h2:∀ b,okc1 b→okc b∨(X7.heap.size≤b∧b < X8.heap.size)) :
  NO w (X9.setCell ⟨c,3,none⟩ v7) p q c l pr V regs vh ok1 xs' v7 okc1 cs' v9 X9.heap.size:=by
 have a1:=h.wp;have a2:=h.pq;have a3:=h.qc;have a4:=h.cm;have a5:=h.mx
 have z0:=B0.size;have z7:=hg7.size;have z8:=B8.size;have z9:=hg9.size
 have hwz:=h.bel.size
 have hvb:∀ b,v.ownBlock=some b→c+1≤b∧b < m:=λb hb=>⟨(h.o.lt_own b hb).1,h.av b hb⟩
 have hcb:∀ b,vc.ownBlock=some b→c+1≤b∧b < m:=λb hb=>⟨(h.cer.lt_own b hb).1,(h.ac b hb).1⟩
 have hhb:∀ b,vh.ownBlock=some b→c+1≤b∧b < m:=λb hb=>⟨(h.hom.lt_own b hb).1,(h.ah b hb).1⟩
 have o9:Only X9 (X9.setCell ⟨c,3,none⟩ v7) (λb=>b=c):=oC (F:=λb=>b=c) (Only.refl X9 _) rfl 3 v7
 have o8:Only X8 X9 (λb=>vc.ownBlock=some b):=Only.grown hg9 (λg e=>e)
 have o7:Only Xa X7 (λb=>v.ownBlock=some b):=Only.grown hg7 (λg e=>e)
 have oX8:Only X X8 (λb=>v.ownBlock=some b):=oB (Only.belLeft B0 o7) B8
 have oX9:Only X X9 (λb=>v.ownBlock=some b∨vc.ownBlock=some b):=(oX8.weaken (λb _ e=>Or.inl e)).trans (o8.weaken (λb _ e=>Or.inr e)) (λb _ e=>e)
 have oX:Only X (X9.setCell ⟨c,3,none⟩ v7) (λb=>(v.ownBlock=some b∨vc.ownBlock=some b)∨b=c):=(oX9.weaken (λb _ e=>Or.inl e)).trans (o9.weaken (λb _ e=>Or.inr e)) (λb _ e=>e)
 have hF:∀ b,((v.ownBlock=some b∨vc.ownBlock=some b)∨b=c)→c≤b:=by
  rintro b ((e|e)|e)
  ·have:=hvb b e;omega
  ·have:=hcb b e;omega
  ·omega
 have s10:(X9.setCell ⟨c,3,none⟩ v7).heap.size=X9.heap.size:=by simp
 exact {
  bel:=bO h.bel oX (λb e=>by have:=hF b e;omega)
  rd:=h.rd.only oX (λb hb e=>by have:=hF b e;omega)
  wp:=a1
  pq:=a2
  qc:=a3
  cm:=by omega
  mx:=by omega
  res:=oX.heap h.res (λe=>by have:=hF q e;omega)
  cd:=by
   have h9:=oX9.heap h.cd (by rintro (e|e);have:=hvb c e;omega;have:=hcb c e;omega)
   have:=set_at h9 3 v7
   simpa using this
  hom:=h.hom.only oX (λb hb e=>by
   rcases e with (e|e)|e
   ·exact(h.ah b hb).2.1 e
   ·exact(h.ah b hb).2.2 e
   ·have:=hhb b hb;omega) (λb hb=>hb.elim)
  o:=by
   refine((hk7.bel B8).only o8 (λb hb e=>?_) (λb hb e=>?_)).only o9 (λb hb e=>by have:=(hk7.lt_own b hb).1;omega) (λb hb e=>?_)
   ·rcases hw7 with hw|hw
    ·exact(h.ac b e).2 (hw ▸ hb)
    ·rw[hw] at hb;cases hb;have:=hcb _ e;omega
   ·rcases h1 b hb with hb|hb
    ·exact(h.ok_ b hb).2.2 e
    ·have:=hcb b e;omega
   ·rcases h1 b hb with hb|hb
    ·have:=(h.ok_ b hb).1;omega
    ·omega
  cer:=hk9.only o9 (λb hb e=>by have:=(hk9.lt_own b hb).1;omega) (λb hb e=>by
   rcases h2 b hb with hb|hb
   ·have:=(h.okc_ b hb).1;omega
   ·omega)
  ok_:=λb hb=>by
   have hl:=hk7.lt b hb
   have e:c < b:=by
    rcases h1 b hb with hb|hb
    ·exact(h.ok_ b hb).1
    ·omega
   refine⟨e,by omega,λe9=>?_⟩
   rcases hw9 with hw|hw
   ·rw[hw] at e9
    rcases h1 b hb with hb|hb
    ·exact(h.ok_ b hb).2.2 e9
    ·have:=hcb b e9;omega
   ·rw[hw] at e9;cases e9;omega
  okc_:=λb hb=>by
   rcases h2 b hb with hb|hb
   ·refine⟨(h.okc_ b hb).1,by have:=(h.okc_ b hb).2.1;omega,λe7=>?_⟩
    rcases hw7 with hw|hw
    ·exact(h.okc_ b hb).2.2 (hw ▸ e7)
    ·rw[hw] at e7;cases e7;have:=(h.okc_ _ hb).2.1;omega
   ·exact⟨by omega,by omega,λe7=>by have:=(hk7.lt_own b e7).2;omega⟩
  ah:=λb hb=>by
   have hm:=(h.ah b hb).1
   refine⟨by omega,λe7=>?_,λe9=>?_⟩
   ·rcases hw7 with hw|hw
    ·exact(h.ah b hb).2.1 (hw ▸ e7)
    ·rw[hw] at e7;cases e7;omega
   ·rcases hw9 with hw|hw
    ·exact(h.ah b hb).2.2 (hw ▸ e9)
    ·rw[hw] at e9;cases e9;omega
  ac:=λb hb=>by
   refine⟨(hk9.lt_own b hb).2,λe7=>?_⟩
   have h7:=(hk7.lt_own b e7).2
   rcases hw9 with hw|hw
   ·rw[hw] at hb
    rcases hw7 with hw|hw
    ·exact(h.ac b hb).2 (hw ▸ e7)
    ·rw[hw] at e7;cases e7;have:=hcb _ hb;omega
   ·rw[hw] at hb;cases hb;omega
  av:=λb hb=>by have:=(hk7.lt_own b hb).2;omega }
theorem NS.tail {w X X9:World} {p q c m x ii ui:Nat} {l:List UInt8} {pr:Int} {V regs:Nat} {vh v vc vI v9:Value} {ok okc okI okJ:Nat→Prop} {xs:List Block} {cs:List (List PairV)} {bc ic uc es:List Value} {ys ys':List Ins} {o:Obj} (h:NS X m x ii ui bc okI ys vI es ic uc) (ho:NO w X p q c l pr V regs vh ok xs v okc cs vc m)
  (hg:(X.alloc o).grownBy X9 vI.ownBlock) (hk:KRow kIns X9 (x+1) 91 okJ ys' v9) (hj:∀ b,okJ b→x < b):X9.heap[x]?=some (.cells (vI :: es).toArray 97 (0,0))∧NI (X9.setCell ⟨x,0,none⟩ v9) x okJ ys' v9 es∧NO w (X9.setCell ⟨x,0,none⟩ v9) p q c l pr V regs vh ok xs v okc cs vc m∧(X9.setCell ⟨x,0,none⟩ v9).heap[m]?=some (.cells bc.toArray 97 (0,0)):=by
 have hm:=h.mx
 have hO9:Only X X9 (λb=>vI.ownBlock=some b):=Only.belLeft (bA (bR X) o) (Only.grown (F:=λb=>vI.ownBlock=some b) hg (λg e=>e))
 have hO10:Only X9 (X9.setCell ⟨x,0,none⟩ v9) (λb=>b=x):=oC (F:=λb=>b=x) (Only.refl X9 _) rfl 0 v9
 exact⟨hO9.heap h.ni.var (λe=>by have:=(h.ni.own e).1;omega),(h.ni.bel (bA (bR X) o)).push2 hg hk hj,(ho.above hO9 (λb e=>by have:=(h.ni.own e).1;omega)).above hO10 (λb e=>by omega),hO10.heap (hO9.heap h.mb (λe=>by have:=(h.ni.own e).1;omega)) (by omega)⟩
def NaivePost (w:World) (f:Func) (regs:Nat) (l:List UInt8) (e:Ending) (w':World):Prop :=
 Bel w w'∧∃ v u,e=.returned (.tuple #[.agg #[.int .i64 f.params,.int .i64 regs,.int .i64 f.vregs,v],u])∧Kd.SK kBlock w' (λb=>w.heap.size≤b) (nvBlocks regs f.blocks l) v∧Kd.SK kPairs w' (λb=>w.heap.size≤b) (nvCert f regs) u
theorem NO.post {w X X':World} {p q c m:Nat} {l l':List UInt8} {f:Func} {pr:Int} {V regs:Nat} {vh v vc:Value} {ok okc:Nat→Prop} {fb:List Block} (he:f.params=pr∧f.vregs=V∧f.blocks=fb) (h:NO w X p q c l' pr V regs vh ok (nvBlocks regs fb l) v okc (fb.map λ_=>homeL regs V) vc m) (hs:Only X X' (λb=>b=q)) :
  NaivePost w f regs l (.returned (.tuple #[.agg #[.int .i64 pr,.int .i64 regs,.int .i64 V,v],vc])) X':=by
 have h1:=h.wp;have h2:=h.pq;have h3:=h.qc;have h4:=h.cm;have h5:=h.mx
 obtain⟨e1,e2,e3⟩:=he
 refine⟨bO h.bel hs (λb e=>by omega),v,vc,by rw[e1,e2],?_,?_⟩
 ·rw[e3]
  refine(h.o.only hs (λb hb e=>by have:=(h.o.lt_own b hb).1;omega) (λb hb e=>by have:=(h.ok_ b hb).1;omega)).sk.stay (Stays.weaken ?_)
  rintro b (hb|hb)
  ·have:=(h.ok_ b hb).1;omega
  ·have:=(h.o.lt_own b hb.symm).1;omega
 ·have e4:nvCert f regs=fb.map λ_=>homeL regs V:=by unfold nvCert;rw[e3,e2];rfl
  rw[e4]
  refine(h.cer.only hs (λb hb e=>by have:=(h.cer.lt_own b hb).1;omega) (λb hb e=>by have:=(h.okc_ b hb).1;omega)).sk.stay (Stays.weaken ?_)
  rintro b (hb|hb)
  ·have:=(h.okc_ b hb).1;omega
  ·have:=(h.cer.lt_own b hb.symm).1;omega
def nvNil:List Value:=[.int .u8 0,.int .i64 0,.int .i64 0,.int .i64 0]
def OutN (w:World) (p q c:Nat) (l:List UInt8) (pr:Int) (V regs:Nat) (fb:List Block) (vh vc i:Value) (wr:World):Prop :=
 ∃ (j:Nat) (ok:Nat→Prop) (v:Value) (okc:Nat→Prop),j≤fb.length∧i=.int .i64 j∧NO w wr p q c (nvLeft (fb.take j) l) pr V regs vh ok (nvBlocks regs (fb.take j) l) v okc ((fb.take j).map λ_=>homeL regs V) vc wr.heap.size
def InN (w:World) (p q c:Nat) (L:List UInt8) (pr:Int) (V regs:Nat) (vh:Value) (ok:Nat→Prop) (xs:List Block) (v:Value) (okc:Nat→Prop) (cs:List (List PairV)) (vc:Value) (m x:Nat) (bc:List Value) (yi:List Ins) (i:Value) (wr:World):Prop :=
 ∃ (k:Nat) (okI:Nat→Prop) (vI:Value),k≤yi.length∧i=.int .i64 k∧NO w wr p q c (L.drop k) pr V regs vh ok xs v okc cs vc m∧NI wr x okI (nvL regs (yi.take k) L) vI nvNil∧wr.heap[m]?=some (.cells bc.toArray 97 (0,0))
def ArgN (w:World) (p q c:Nat) (L:List UInt8) (pr:Int) (V regs:Nat) (vh:Value) (ok:Nat→Prop) (xs:List Block) (v:Value) (okc:Nat→Prop) (cs:List (List PairV)) (vc:Value) (m x ii ui:Nat) (bc:List Value) (okI:Nat→Prop) (ys:List Ins) (ic uc:List Value) (args:List Int) (i:Value) (wr:World):Prop :=
 ∃ (t:Nat) (vI va:Value),t≤args.length∧i=.int .i64 t∧NO w wr p q c L pr V regs vh ok xs v okc cs vc m∧NS wr m x ii ui bc okI (ys++fillsA 0 (args.take t)) vI nvNil ic (uc++[va])∧OwnI wr (ui+1) va (upTo t)∧∀ b,va.ownBlock=some b→vI.ownBlock≠some b∧¬okI b
theorem chd_lt (l:List UInt8):chd l < 256:=by
 cases l with
 |nil=>simp[chd]
 |cons a r=>exact a.toNat_lt
theorem NI.begin {X:World} {m x:Nat} {okI:Nat→Prop} {ys:List Ins} {vI:Value} {es bc:List Value} (h:NI X x okI ys vI es) (hb:X.heap[m]?=some (.cells bc.toArray 97 (0,0))) (hmx:m < x) (ic:List Value) :
  NS ((X.alloc (.cells ic.toArray 91)).alloc (.cells ic.toArray 91)) m x X.heap.size (X.heap.size+1) bc okI ys vI es ic ic:=by
 have hB:Bel X ((X.alloc (.cells ic.toArray 91)).alloc (.cells ic.toArray 91)):=bA (bA (bR _) _) _
 have hx:=h.lt
 exact {
  ni:=h.bel hB
  mb:=bHeap hB hb
  mi:=bHeap (bA (bR _) _) (hnew rfl)
  mu:=hnew (by simp)
  mx:=hmx
  xi:=hx
  iu:=by omega
  ow:=λb hb=>by have:=(h.own hb).2;omega
  okI_:=λb hb=>by have:=h.inn.lt b hb;omega }
end Go.Proofs.YtjkgligohegaeaaGreatDoor
