/- Lemmas of the row. -/
import Derived.Conc.LoneCalls
import Derived.Conc.LoneSelectN
import Derived.Test.YtjkgligohegaeaaGreatDoorN14
set_option linter.all false
set_option maxRecDepth 20000
set_option maxHeartbeats 12800000
namespace Go.Proofs.YtjkgligohegaeaaGreatDoor
open Go.RowKit
theorem commit_full (pb pf base room:Nat) (ok:Nat→Prop) (keys:List Int) (vals:List (List UInt8)) (kv vv:Value) (l:List UInt8) (A:Option Addr) (c:Nat) (job:Nat) (hj:job < 16) (hk:(job:Int)∉keys) (d:List UInt8) (Ad:Option Addr) (cd:Nat) (w:World) (h:BookAt w pb pf base ok keys vals kv vv l.length) (hf:FileAt w pf room l A c) (hd:Bytes w Ad d) (hl:(recB job d).length≤65536) (hr:room < l.length+(layF 1 (recB job d)).length) :
  Calls Tryz.prog 69 #[.pointer (some ⟨pb,0,none⟩),.int .i64 job,.slice Ad d.length cd] w λe w'=>e=.returned (.int .i64 50)∧Bel w w':=by
 have HL:=Hm (lay_full pb pf base room ok keys vals kv vv l A c job hj hk d Ad cd w h hf hd hl hr)
 have hp:=hlt h.head
 clear h hf hd hl hr hk hj
 go_enter Tryz.func69,Tryz.ntmps69
 go_wp2_with fail
 refine HL.o.mono ?_
 rintro e w1 ⟨rfl,hb1⟩
 have HB1:=Hm hb1
 clear hb1
 go_wp2
 go_ret
 exact⟨rfl,HB1.o⟩
theorem BookAt.setSize {w:World} {pb pf base size:Nat} {ok:Nat→Prop} {keys:List Int} {vals:List (List UInt8)} {kv vv:Value} (h:BookAt w pb pf base ok keys vals kv vv size) (n:Nat):BookAt (w.setCell ⟨pb,1,none⟩ (.int .i64 n)) pb pf base ok keys vals kv vv n:=by
 have hg:=grownBy_cell w pb 1 (.int .i64 n)
 have ho:Only w (w.setCell ⟨pb,1,none⟩ (.int .i64 n)) (λb=>b=pb):=Only.grown hg (λg e=>by cases e;rfl)
 have hh:(w.setCell ⟨pb,1,none⟩ (.int .i64 n)).heap[pb]?=some (.cells #[.pointer (some ⟨pf,0,none⟩),.int .i64 n,kv,vv] 189 (0,0)):=by
  rw[Go.Joins.block_setCell h.head _]
  rfl
 refine⟨hh,⟨hcell hh 2,hcell hh 3,own_only h.tab.krow ho (λb hb e=>h.pk (e ▸ hb)),h.tab.vrow.only ho (λb hb e=>h.pv (e ▸ hb)) (λb hb e=>h.okp (e ▸ hb)),h.tab.len,h.tab.rise,h.tab.few⟩,h.pk,h.pv,h.ne,h.okp,h.okk,by simpa using h.base_⟩
theorem TabB.more {w:World} {p o base:Nat} {ok ok':Nat→Prop} {keys:List Int} {vals:List (List UInt8)} {kv vv:Value} (h:TabB w p o base ok keys vals kv vv) (hs:∀ b,ok b→ok' b) (h1:∀ b,ok' b→some b≠vv.ownBlock) (h2:∀ b,ok' b→b < w.heap.size):TabB w p o base ok' keys vals kv vv :=
 ⟨h.c0,h.c1,h.krow,h.vrow.more hs h1 h2,h.len,h.rise,h.few⟩
def CommitPost (w:World) (pb pf base room:Nat) (ok:Nat→Prop) (keys:List Int) (vals:List (List UInt8)) (l:List UInt8) (kv vv:Value) (w':World):Prop :=
 Only w w' (λb=>b=pb∨b=pf∨some b=kv.ownBlock∨some b=vv.ownBlock)∧∃ ok' kv' vv' A' c',BookAt w' pb pf base ok' keys vals kv' vv' l.length∧FileAt w' pf room l A' c'∧Where w kv kv'∧Where w vv vv'∧(∀ b,ok' b→ok b∨w.heap.size≤b) ∧
  (∀ a,A'=some a→w.heap.size≤a.block∧¬ok' a.block∧kv'.ownBlock≠some a.block∧vv'.ownBlock≠some a.block)
theorem commit_ok (pb pf base room:Nat) (ok:Nat→Prop) (keys:List Int) (vals:List (List UInt8)) (kv vv:Value) (l:List UInt8) (A:Option Addr) (c:Nat) (job:Nat) (hj:job < 16) (hk:∀ x∈keys,x < (job:Int)) (d:List UInt8) (Ad:Option Addr) (cd:Nat) (w:World) (h:BookAt w pb pf base ok keys vals kv vv l.length) (hf:FileAt w pf room l A c) (hd:Bytes w Ad d) (hl:(recB job d).length≤65536) (hr:l.length+(layF 1 (recB job d)).length≤room)
  (hne:pf≠pb) (hkf:kv.ownBlock≠some pf) (hvf:vv.ownBlock≠some pf) (hof:¬ok pf) (hAd:∀ a,Ad=some a→a.block≠pf∧a.block≠pb) (hfew:keys.length < 1000) :
  Calls Tryz.prog 69 #[.pointer (some ⟨pb,0,none⟩),.int .i64 job,.slice Ad d.length cd] w λe w'=>e=.returned (.int .i64 0)∧CommitPost w pb pf base room ok (keys++[(job:Int)]) (vals++[d]) (l++layF 1 (recB job d)) kv vv w':=by
 have hk':(job:Int)∉keys:=λhm=>by have:=hk _ hm;omega
 have HL:=Hm (lay_ok pb pf base room ok keys vals kv vv l A c job hj hk' d Ad cd w h hf hd hl hr)
 have H:=Hm h
 have HD:=Hm hd
 have HP:=Hm (And.intro hne (And.intro hkf (And.intro hvf (And.intro hof hAd))))
 have HK:=Hm hk
 have HFw:=Hm hfew
 have hp:=hlt h.head
 have hpf0:=hlt hf.head
 have hdl:d.length≤65536:=by unfold recB at hl;rw[List.length_append] at hl;omega
 obtain⟨D,hD⟩:∃ D,D=layF 1 (recB job d):=⟨_,rfl⟩
 rw[←hD] at HL⊢
 have HDp:Hd (0 < D.length):=⟨by rw[hD];have:=layF_pos 1 (recB job d);omega⟩
 clear h hf hd hl hr hk hj hk' hne hkf hvf hof hAd hfew hD
 go_enter Tryz.func69,Tryz.ntmps69
 go_wp2_with fail
 refine HL.o.mono ?_
 rintro e w1 ⟨rfl,hg1,gq,cq,B,cb,hq⟩
 have ho1:Only w w1 (λb=>b=pf):=Only.grown hg1 (λg e=>by cases e;rfl)
 have h1:=H.o.only ho1 (λe=>HP.o.1 e.symm) (λb hb e=>HP.o.2.1 (e ▸ hb)) (λb hb e=>HP.o.2.2.1 (e ▸ hb)) (λb hb e=>HP.o.2.2.2.1 (e ▸ hb))
 have HSy:=Hm (sync_q pf room l A c D gq cq B cb w1 hq)
 have HO1:=Hm ho1
 have H1:=Hm h1
 have p0:w1.cell? ⟨pb,0,none⟩=some (.pointer (some ⟨pf,0,none⟩)):=hcell h1.head 0
 replace hp:=hlt h1.head
 clear hg1 hq ho1 h1
 go_wp2_with fail
 refine HSy.o.mono ?_
 rintro e w2 ⟨rfl,hg2,A2,c2,hf2,hfr2⟩
 have ho2:Only w w2 (λb=>b=pf):=HO1.o.trans (Only.grown (F:=λb=>b=pf) hg2 (λg e=>by cases e;rfl)) (λ_ _ h=>h)
 have h2:=H.o.only ho2 (λe=>HP.o.1 e.symm) (λb hb e=>HP.o.2.1 (e ▸ hb)) (λb hb e=>HP.o.2.2.1 (e ▸ hb)) (λb hb e=>HP.o.2.2.2.1 (e ▸ hb))
 have HSu:=Hm (sure_at pf room (l++D) A2 c2 w2 hf2)
 have HO2:=Hm ho2
 have H2:=Hm h2
 have HF2:=Hm (And.intro hf2 (λa ha=>Nat.le_trans HO1.o.size (hfr2 a ha)))
 replace p0:w2.cell? ⟨pb,0,none⟩=some (.pointer (some ⟨pf,0,none⟩)):=hcell h2.head 0
 have p1:w2.cell? ⟨pb,1,none⟩=some (.int .i64 l.length):=hcell h2.head 1
 have f1:=hfree h2.head 1
 replace hp:=hlt h2.head
 clear hg2 hf2 ho2 h2 hfr2
 go_wp2_with fail
 refine HSu.o.mono ?_
 rintro e w3 ⟨rfl,rfl⟩
 go_wp2_with fail
 have hlen:((l.length:Int)+D.length)=((l++D).length:Nat):=by rw[List.length_append];omega
 rw[hlen]
 have H4:=Hm (H2.o.setSize (l++D).length)
 have hp4:=HP.o.1
 have HO4:Hd (Only w (w3.setCell ⟨pb,1,none⟩ (.int .i64 (l++D).length)) (λb=>b=pb∨b=pf)):=⟨(HO2.o.weaken (G:=λb=>b=pb∨b=pf) λb _ e=>.inr e).trans (Only.grown (F:=λb=>b=pb) (grownBy_cell _ _ _ _) (λg e=>by cases e;rfl)) (λ_ _ e=>.inl e)⟩
 have HF4:Hd (FileAt (w3.setCell ⟨pb,1,none⟩ (.int .i64 (l++D).length)) pf room (l++D) A2 c2):=⟨HF2.o.1.only (Only.grown (F:=λb=>b=pb) (grownBy_cell _ _ _ _) (λg e=>by cases e;rfl)) hp4 (λa ha e=>by have:=HF2.o.2 a ha;have:=hlt H.o.head;omega)⟩
 have HFr:=Hm HF2.o.2
 clear HF2 HO2 H2 HSu hlen p0 p1 f1 hp
 generalize w3.setCell ⟨pb,1,none⟩ (.int .i64 (l++D).length)=w4 at *
 have hp:=hlt H4.o.head
 have HC:=Hm (λ(wx:World) (hb:Bel w4 wx)=>cloneB_any d Ad cd wx (Bytes.below (row_only HD.o HO4.o (λa ha=>by rintro (e|e);exact(HP.o.2.2.2.2 a ha).2 e;exact(HP.o.2.2.2.2 a ha).1 e)) hb) (by omega))
 refine rgn [.rd 0,.rd 1,.rd 2,.rd 3,.rd 4,.hv 5 [0,1,2,3],.hv 6 []] (n:=37) rfl ?_
 iterate 5 (refine line_rd rfl (λK hK=>?_);go_simp;refine hK _ ?_;clear hK K)
 refine line_hv rfl ?_
 go_wp2_with fail
 refine(HC.o _ (bD (bR w4))).mono ?_
 rintro e w5 ⟨v5,rfl,hb5',ho5⟩
 have hb5:Bel w4 w5:=bU hb5'
 obtain⟨A5,c5,rfl,hr5,-,hfr5,hcap5,-⟩:=own_row ho5
 have hcp5:=own_cap ho5
 have H5:=H4.o.bel hb5
 have HB5:=Hm hb5
 have hs45:=hb5.size
 have hfr5':∀ a,A5=some a→w4.heap.size≤a.block:=hfr5
 have hvv:=H4.o.tab.vrow.lt_own
 have htab:=H5.tab.more (ok':=λb=>ok b∨∃ a,A5=some a∧b=a.block) (λb hb=>.inl hb) (by
  rintro b (hb|⟨a,ha,rfl⟩) e
  ·exact H5.tab.vrow.apart b hb e
  ·have:=hfr5' a ha;have:=(hvv _ e.symm).2;omega) (by
  rintro b (hb|⟨a,ha,rfl⟩)
  ·exact H5.tab.vrow.lt b hb
  ·exact hcp5.2 a ha)
 have HPu:=Hm (put_last pb 2 base (λb=>ok b∨∃ a,A5=some a∧b=a.block) keys vals kv vv job d (.slice A5 d.length c5) _ _ w5 htab HK.o (bytes_sk hr5 hcap5 hcp5.1 (λa ha=>.inr ⟨a,ha,rfl⟩)) H5.head H5.pk H5.pv H5.ne H5.base_ HFw.o (by
  rintro (hb|⟨a,ha,e⟩)
  ·exact H5.okp hb
  ·have:=hfr5' a ha;omega) (by
  rintro b (hb|⟨a,ha,rfl⟩) e
  ·exact H5.okk b hb e
  ·have:=hfr5' a ha;have:=(H4.o.tab.krow.lt _ e).2;omega))
 have HX:=Hm (And.intro hfr5' (And.intro hs45 hcp5.2))
 replace hp:=hlt H5.head
 clear hb5 hb5' ho5 hr5 hfr5 hcap5 hcp5 H5 htab hfr5' hvv hs45
 go_wp2_with fail
 refine⟨?_,?_⟩
 ·simp only[Again,slotOf]
  go_simp
 refine line_hv rfl ?_
 go_wp2_with fail
 refine HPu.o.mono ?_
 rintro e w6 ⟨rfl,ho6,kv',vv',ht6,hwk,hwv,hne6,hh6⟩
 have HZ:Hd (CommitPost w pb pf base room ok (keys++[(job:Int)]) (vals++[d]) (l++D) kv vv w6):=⟨by
  have ho46:Only w4 w6 (λb=>b=pb∨some b=kv.ownBlock∨some b=vv.ownBlock):=Only.belLeft HB5.o ho6
  have hs0:=HO4.o.size
  have hsz:=HX.o.2.1
  have hpb0:=hlt H.o.head
  refine⟨(HO4.o.weaken (G:=λb=>b=pb∨b=pf∨some b=kv.ownBlock∨some b=vv.ownBlock) (by rintro b _ (e|e);exact .inl e;exact .inr (.inl e))).trans ho46 (by rintro b _ (e|e);exact .inl e;exact .inr (.inr e)),
   _,kv',vv',A2,c2,⟨?_,ht6,?_,?_,hne6,?_,?_,Nat.le_trans (Nat.le_trans H4.o.base_ hsz) ho6.size⟩,HF4.o.only ho46 ?_ ?_,hwk.mono (Nat.le_trans hs0 hsz),hwv.mono (Nat.le_trans hs0 hsz),?_,?_⟩
  ·rw[hh6];rfl
  ·intro e
   rcases hwk with h|h
   ·exact H4.o.pk (h ▸ e)
   ·have:=h pb e;have:=hlt H4.o.head;omega
  ·intro e
   rcases hwv with h|h
   ·exact H4.o.pv (h ▸ e)
   ·have:=h pb e;have:=hlt H4.o.head;omega
  ·rintro (hb|⟨a,ha,e⟩)
   ·exact H4.o.okp hb
   ·have:=HX.o.1 a ha;have:=hlt H4.o.head;omega
  ·rintro b (hb|⟨a,ha,rfl⟩) e
   ·rcases hwk with h|h
    ·exact H4.o.okk b hb (h ▸ e)
    ·have:=h b e;have:=H4.o.tab.vrow.lt b hb;omega
   ·rcases hwk with h|h
    ·have:=HX.o.1 a ha;have:=(H4.o.tab.krow.lt _ (h ▸ e)).2;omega
    ·have h2:=h _ e
     have h3:=ht6.vrow.lt a.block (.inr ⟨a,ha,rfl⟩)
     have h4:=HX.o.2.2 a ha
     omega
  ·rintro (e|e|e)
   ·exact HP.o.1 e
   ·exact HP.o.2.1 e.symm
   ·exact HP.o.2.2.1 e.symm
  ·rintro a ha (e|e|e)
   ·have:=HFr.o a ha;omega
   ·have:=HFr.o a ha;have:=(H.o.tab.krow.lt _ e.symm).2;omega
   ·have:=HFr.o a ha;have:=(H.o.tab.vrow.lt_own _ e.symm).2;omega
  ·rintro b (hb|⟨a,ha,rfl⟩)
   ·exact .inl hb
   ·exact .inr (Nat.le_trans hs0 (HX.o.1 a ha))
  ·intro a ha
   have hA2:=HFr.o a ha
   have hA2l:a.block < w4.heap.size:=by
    obtain⟨b,off,e,hc⟩:=HF4.o.sure 0 (by simp;have:=HDp.o;omega)
    rw[ha] at e
    cases e
    exact World.block_lt_of_cell? w4 _ hc
   refine⟨hA2,?_,?_,?_⟩
   ·rintro (hb|⟨a',ha',e⟩)
    ·have:=H.o.tab.vrow.lt _ hb;omega
    ·have:=HX.o.1 a' ha';omega
   ·intro e
    rcases hwk with h|h
    ·have:=(H.o.tab.krow.lt _ (h ▸ e)).2;omega
    ·have:=h _ e;omega
   ·intro e
    rcases hwv with h|h
    ·have:=(H.o.tab.vrow.lt_own _ (h ▸ e)).2;omega
    ·have:=h _ e;omega⟩
 clear ho6 ht6 hwk hwv hne6 hh6
 go_wp2_with fail
 refine⟨?_,?_⟩
 ·exact trivial
 unfold Line
 go_wp2
 go_ret
 exact⟨rfl,HZ.o⟩
theorem BookAt.put {w w':World} {pb pf base size:Nat} {ok ok':Nat→Prop} {keys keys':List Int} {vals vals':List (List UInt8)} {kv vv kv' vv':Value} (h:BookAt w pb pf base ok keys vals kv vv size) (ht:TabB w' pb 2 base ok' keys' vals' kv' vv')
  (hwk:Where w kv kv') (hwv:Where w vv vv') (hne:∀ b,kv'.ownBlock=some b→vv'.ownBlock≠some b) (hh:w'.heap[pb]?=some (.cells ((#[.pointer (some ⟨pf,0,none⟩),.int .i64 size,kv,vv].setIfInBounds 2 kv').setIfInBounds (2+1) vv') 189 (0,0)))
  (hp:¬ok' pb) (hk:∀ b,ok' b→kv.ownBlock≠some b) (hlt':∀ b,ok' b→b < w.heap.size) (hs:w.heap.size≤w'.heap.size):BookAt w' pb pf base ok' keys' vals' kv' vv' size:=by
 have hpl:=hlt h.head
 refine⟨hh,ht,?_,?_,hne,hp,?_,Nat.le_trans h.base_ hs⟩
 ·intro e
  rcases hwk with h2|h2
  ·exact h.pk (h2 ▸ e)
  ·have:=h2 pb e;omega
 ·intro e
  rcases hwv with h2|h2
  ·exact h.pv (h2 ▸ e)
  ·have:=h2 pb e;omega
 ·intro b hb e
  rcases hwk with h2|h2
  ·exact hk b hb (h2 ▸ e)
  ·have:=h2 b e;have:=hlt' b hb;omega
def recsOf (js:List (Nat × List UInt8)):List (UInt8 × List UInt8):=js.map λp=>(1,recB p.1 p.2)
def keysOf (js:List (Nat × List UInt8)):List Int:=js.map λp=>(p.1:Int)
def valsOf (js:List (Nat × List UInt8)):List (List UInt8):=js.map λp=>p.2
def OpenedPost (w:World) (pf room:Nat) (js:List (Nat × List UInt8)) (e:Ending) (w':World):Prop :=
 ∃ pb base ok kv vv A c,e=.returned (.tuple #[.pointer (some ⟨pb,0,none⟩),.int .i64 0])∧Only w w' (λb=>b=pf)∧w.heap.size≤pb∧w.heap.size≤base∧BookAt w' pb pf base ok (keysOf js) (valsOf js) kv vv (laid (recsOf js)).length∧FileAt w' pf room (laid (recsOf js)) A c ∧
  (∀ b,ok b→w.heap.size≤b)∧(∀ a,A=some a→w.heap.size≤a.block∧a.block≠pb∧¬ok a.block∧kv.ownBlock≠some a.block∧vv.ownBlock≠some a.block)
theorem FileAt.only' {w w':World} {F:Nat→Prop} {pf room:Nat} {l:List UInt8} {A:Option Addr} {c:Nat} (h:FileAt w pf room l A c) (hs:Only w w' F) (h0:¬F pf) (h1:0 < l.length→∀ a,A=some a→¬F a.block):FileAt w' pf room l A c:=by
 refine⟨hs.heap h.head h0,?_,h.cap,h.apart,h.room,h.small⟩
 by_cases hl:0 < l.length
 ·exact row_only h.sure hs (h1 hl)
 ·obtain rfl:l=[]:=List.eq_nil_of_length_eq_zero (by omega)
  exact Bytes.nil _ _
theorem sk_fr {w:World} {ok:Nat→Prop} {l:List (UInt8 × List UInt8)} {v:Value} (h:Kd.SK kFr w ok l v) (j:Nat) (hj:j < l.length):∃ b off c v1,v=.slice (some ⟨b,off,none⟩) l.length c∧ok b∧Kd.SK kB8 w ok l[j].2 v1∧w.cell? ⟨b,off+j*2,none⟩=some (byteV l[j].1)∧w.cell? ⟨b,off+j*2+1,none⟩=some v1:=by
 obtain⟨b,off,c,cs,rfl,_,ho,_,⟨c1,c2,rfl,rfl,v1,rfl,hs⟩,hc⟩:=h.at_ j hj
 have h0:=hc 0 (by decide)
 have h1:=hc 1 (by decide)
 exact⟨b,off,c,v1,rfl,ho,hs,h0,h1⟩
theorem recs_take (js:List (Nat × List UInt8)) (j:Nat) (hj:j < js.length):laid (recsOf (js.take (j+1)))=laid (recsOf (js.take j))++layF 1 (recB js[j].1 js[j].2):=by
 rw[List.take_succ_eq_append_getElem hj,recsOf,List.map_append,laid_append]
 simp[recsOf,laid]
theorem open_file (pf room:Nat) (js:List (Nat × List UInt8)) (hr:js.Pairwise (λa b=>a.1 < b.1)) (h16:∀ p∈js,p.1 < 16∧(recB p.1 p.2).length≤65536) (hn:js.length≤16) (tl:List UInt8) (htl:(takeF tl).code≠0) (A:Option Addr) (c:Nat) (w:World) (hf:FileAt w pf room (laid (recsOf js)++tl) A c) :
  Calls Tryz.prog 73 #[.pointer (some ⟨pf,0,none⟩)] w (OpenedPost w pf room js):=by
 obtain⟨L,hL⟩:∃ L,L=laid (recsOf js)++tl:=⟨_,rfl⟩
 rw[←hL] at hf
 have HLd:=Hm hL
 have HF:=Hm hf
 have H16:=Hm h16
 have HR:=Hm hr
 have hp:=hlt hf.head
 have hsm:=hf.small
 have HB0:=Hm (λ(wx:World) (hb:Bel w wx)=>bytes_at pf room _ A c wx (hf.bel hb))
 clear hf h16 hr hL
 go_enter Tryz.func73,Tryz.ntmps73
 go_wp2_with fail
 refine(HB0.o _ (bA (bR w) _)).mono ?_
 rintro e w1 ⟨v1,rfl,hb1,ho1⟩
 obtain⟨A1,c1,rfl,hr1,-,-,hcap1,-⟩:=own_row ho1
 have HAll:Hd (Calls Tryz.prog 113 #[.slice A1 L.length c1] w1 λe w'=>Bel w1 w'∧∃ v ok,e=.returned (.tuple #[v,.int .i64 (laid (recsOf js)).length])∧KRow kFr w' w1.heap.size 82 ok (recsOf js) v∧∀ b,ok b→w1.heap.size≤b):=⟨by
  rw[HLd.o] at hr1 hcap1 hsm⊢
  exact all_any (recsOf js) (by
   intro r hr
   obtain⟨p,hp,rfl⟩:=List.mem_map.1 hr
   exact(H16.o p hp).2) tl htl A1 c1 w1 hr1 (by omega) hcap1⟩
 have HB1:=Hm (bT (bA (bR w) (.cells #[.pointer (some ⟨pf,0,none⟩),.int .i64 0,.slice none 0 0,.slice none 0 0] 189)) hb1)
 have hh1:=bHeap hb1 (hnew (w:=w) (o:=.cells #[.pointer (some ⟨pf,0,none⟩),.int .i64 0,.slice none 0 0,.slice none 0 0] 189) rfl)
 have HH1:=Hm hh1
 clear hb1 ho1 hr1 hcap1 hh1
 go_wp2_with fail
 refine HAll.o.mono ?_
 rintro e w2 ⟨hb2,v2,okf,rfl,hk2,hok2⟩
 obtain⟨A2,c2,rfl,hcap2,-,hfr2⟩:=hk2.form
 have hrl:(recsOf js).length=js.length:=by simp[recsOf]
 have HB2:=Hm (bT HB1.o hb2)
 have HH2:=Hm (bHeap hb2 HH1.o)
 have hpb:w.heap.size < w1.heap.size:=hlt HH1.o
 have HS2:=Hm (hk2.sk.stay (Stays.weaken (ok':=λb=>b≠w.heap.size) (by
  rintro b (hb|hb)
  ·have:=hok2 b hb;omega
  ·have:=(hk2.lt_own b hb.symm).1;omega)))
 rw[hrl] at HS2⊢
 obtain⟨pb,hpbd⟩:∃ pb,pb=w.heap.size:=⟨_,rfl⟩
 rw[←hpbd] at HS2 HH2⊢
 have HPB:=Hm hpbd
 have HBk0:Hd (BookAt w2 pb pf w2.heap.size (λ_=>False) [] [] (.slice none 0 0) (.slice none 0 0) 0):=⟨HH2.o,⟨hcell HH2.o 2,hcell HH2.o 3,own_none _ _ _ _ 0 rfl,KRow.none _ _ _ _ (λ_ h=>h.elim),rfl,List.Pairwise.nil,by simp⟩,by simp[Value.ownBlock],by simp[Value.ownBlock],by simp[Value.ownBlock],λh=>h,λ_ h=>h.elim,Nat.le_refl _⟩
 have HFl2:=Hm (HF.o.bel HB2.o)
 have hw2l:pb < w2.heap.size:=hlt HH2.o
 clear hb2 hk2 hok2 hcap2 hfr2 hrl hpbd hpb HB0 HAll HH1 HB1
 go_wp2_with fail
 go_loopw [29] (λi wr=>∃ (j:Nat) (ok:Nat→Prop) (kv vv:Value),j≤js.length∧i=.int .i64 j∧Only w2 wr (λb=>b=pb)∧BookAt wr pb pf w2.heap.size ok (keysOf (js.take j)) (valsOf (js.take j)) kv vv (laid (recsOf (js.take j))).length∧∀ b,ok b→w2.heap.size≤b) (λi _=>js.length-(intOf i).toNat)
 case atStart=>exact⟨0,_,_,_,Nat.zero_le _,rfl,Only.refl _ _,HBk0.o,λ_ h=>h.elim⟩
 case round =>
  obtain⟨j,ok,kv,vv,hj,rfl,ho,hbk,hok⟩:=hrel
  have HO:=Hm ho
  have HBk:=Hm hbk
  have HOk:=Hm hok
  clear ho hbk hok
  by_cases hlt':j < js.length
  ·have hjr:j < (recsOf js).length:=by simpa [recsOf] using hlt'
   have hrl:(recsOf js).length=js.length:=by simp[recsOf]
   have hS:=HS2.o
   rw[←hrl] at hS
   obtain⟨b,off,c',v1,e,hob,hs1,z0',z1'⟩:=sk_fr hS j hjr
   rw[hrl] at e
   simp only[Value.slice.injEq] at e
   obtain⟨rfl,-,rfl⟩:=e
   have hre:(recsOf js)[j]=(1,recB js[j].1 js[j].2):=by simp[recsOf]
   rw[hre] at hs1 z0'
   dsimp only at hs1 z0'
   have z0:=(cell_of_heap (a:=⟨b,off+j*2,none⟩) (HO.o.block b (World.block_lt_of_cell? w2 _ z0') hob)).trans z0'
   have z1:=(cell_of_heap (a:=⟨b,off+j*2+1,none⟩) (HO.o.block b (World.block_lt_of_cell? w2 _ z0') hob)).trans z1'
   have h16j:=H16.o _ (List.getElem_mem hlt')
   have hrt:=recs_take js j hlt'
   have hks:keysOf (js.take (j+1))=keysOf (js.take j)++[(js[j].1:Int)]:=by unfold keysOf;rw[List.take_succ_eq_append_getElem hlt',List.map_append];rfl
   have hvs:valsOf (js.take (j+1))=valsOf (js.take j)++[js[j].2]:=by unfold valsOf;rw[List.take_succ_eq_append_getElem hlt',List.map_append];rfl
   have hkl:∀ x∈keysOf (js.take j),x < (js[j].1:Int):=by
    intro x hx
    obtain⟨p,hp,rfl⟩:=List.mem_map.1 hx
    obtain⟨i,hi,rfl⟩:=List.mem_take_iff_getElem.1 hp
    have:=List.pairwise_iff_getElem.1 HR.o i j (by omega) hlt' (by omega)
    omega
   obtain⟨A7,c7,rfl,hcap7,hby72,hok7⟩:=sk_bytes hs1
   have hA7:∀ a,A7=some a→0 < (recB js[j].1 js[j].2).length→a.block < w2.heap.size:=λa ha h0=>by
    obtain⟨b,off,e,hc⟩:=hby72 0 (by simpa using h0)
    rw[ha] at e
    cases e
    exact World.block_lt_of_cell? w2 _ hc
   have hrp:0 < (recB js[j].1 js[j].2).length:=by unfold recB;rw[List.length_append];have:=leb_pos js[j].1;omega
   have HA7:Hd (∀ a,A7=some a→a.block < w2.heap.size∧a.block≠pb):=⟨λa ha=>⟨hA7 a ha hrp,hok7 hrp a ha⟩⟩
   have hby7:Bytes wr A7 (recB js[j].1 js[j].2):=row_only hby72 HO.o (λa ha=>(HA7.o a ha).2)
   have hle:=HLd.o
   have hbnd0:(laid (recsOf (js.take (j+1)))).length≤4194304:=by
    have e1:recsOf js=recsOf (js.take (j+1))++recsOf (js.drop (j+1)):=by unfold recsOf;rw[←List.map_append,List.take_append_drop]
    rw[e1,laid_append] at hle
    have:=congrArg List.length hle
    simp only[List.length_append] at this
    omega
   have HBd0:=Hm hbnd0
   clear hle hbnd0 hby72 hok7 hA7 hrp z0' z1' hob
   have HRd:=Hm (λ(wx:World) (hb:Bel wr wx)=>read_ok js[j].1 h16j.1 js[j].2 A7 c7 wx (hby7.below hb) hcap7 h16j.2)
   have HLy:=Hm (λ(wx:World) (A:Option Addr) (ca:Nat) (h:Bytes wx A (recB js[j].1 js[j].2))=>lay_any 1 A ca (recB js[j].1 js[j].2) wx h h16j.2)
   have HT:=Hm (And.intro hrt (And.intro hks (And.intro hvs hkl)))
   have HBy:=Hm hby7
   clear hS hs1 hby7 hcap7 hre hrl hrt hks hvs hkl h16j
   generalize js[j]=jd at *
   obtain⟨job,d⟩:=jd
   dsimp only at *
   obtain⟨n,hn⟩:∃ n,n=(recB job d).length:=⟨_,rfl⟩
   have HN:=Hm hn
   rw[←hn] at z1 HRd
   clear hn hjr
   rw[show byteV 1=Value.int .u8 1 from rfl] at z0
   go_wp2_with fail
   refine(HRd.o _ (bA (bR wr) _)).mono ?_
   rintro e w4 ⟨v4,rfl,hb4,ho4⟩
   obtain⟨A4,c4,rfl,hr4,-,hfr4,hcap4,-⟩:=own_row ho4
   have hcp4:=own_cap ho4
   have hbr4:Bel wr w4:=bT (bA (bR wr) _) hb4
   have hbx:=bHeap hb4 (hnew (w:=wr) (o:=.cells #[.int .u8 1,.slice A7 n c7] 82) rfl)
   have h4:=HBk.o.bel hbr4
   have HG:=Hm (get_none pb 2 w2.heap.size ok _ _ kv vv job w4 h4.tab (λhm=>by have:=HT.o.2.2.2 _ hm;omega))
   have HX:=Hm (And.intro hbr4 (And.intro (And.intro hr4 (And.intro hcap4 hcp4)) (And.intro hfr4 hbx)))
   have hp4:=hlt h4.head
   clear hb4 ho4 hr4 hfr4 hcap4 hcp4 hbr4 hbx h4 z0 z1
   go_wp2_with fail
   refine HG.o.mono ?_
   rintro e w5 ⟨rfl,hb5⟩
   have HB5:=Hm (bT HX.o.1 hb5)
   have h5:=HBk.o.bel HB5.o
   have hsr:=HX.o.1.size
   have hs5:=hb5.size
   have hfr4':∀ a,A4=some a→wr.heap.size < a.block:=λa ha=>by have:=HX.o.2.2.1 a ha;simp at this;omega
   have hl4:=HX.o.2.1.2.2.2
   have htab:=h5.tab.more (ok':=λb=>ok b∨∃ a,A4=some a∧b=a.block) (λb hb=>.inl hb) (by
    rintro b (hb|⟨a,ha,rfl⟩) e
    ·exact h5.tab.vrow.apart b hb e
    ·have:=hfr4' a ha;have:=(HBk.o.tab.vrow.lt_own _ e.symm).2;omega) (by
    rintro b (hb|⟨a,ha,rfl⟩)
    ·exact h5.tab.vrow.lt b hb
    ·have:=hl4 a ha;omega)
   have hpb':pb < wr.heap.size:=hlt HBk.o.head
   have hop':¬(ok pb∨∃ a,A4=some a∧pb=a.block):=by
    rintro (hb|⟨a,ha,e⟩)
    ·exact h5.okp hb
    ·have:=hfr4' a ha;omega
   have hok':∀ b,(ok b∨∃ a,A4=some a∧b=a.block)→kv.ownBlock≠some b:=by
    rintro b (hb|⟨a,ha,rfl⟩) e
    ·exact h5.okk b hb e
    ·have:=hfr4' a ha;have:=(HBk.o.tab.krow.lt _ e).2;omega
   have HPu:=Hm (put_last pb 2 w2.heap.size (λb=>ok b∨∃ a,A4=some a∧b=a.block) (keysOf (js.take j)) (valsOf (js.take j)) kv vv job d (.slice A4 d.length c4) _ _ w5 htab HT.o.2.2.2 (bytes_sk (HX.o.2.1.1.below hb5) HX.o.2.1.2.1 HX.o.2.1.2.2.1 (λa ha=>.inr ⟨a,ha,rfl⟩)) h5.head h5.pk h5.pv h5.ne h5.base_ (by simp[keysOf];omega) hop' hok')
   have HBx5:=Hm (bHeap hb5 HX.o.2.2.2)
   have H5:=Hm (And.intro h5 (And.intro htab (And.intro hop' hok')))
   have hp5:=hlt h5.head
   clear hb5 h5 htab hop' hok' hfr4' hl4
   go_wp2_with fail
   refine HPu.o.mono ?_
   rintro e w6 ⟨rfl,ho6,kv',vv',ht6,hwk,hwv,hne6,hh6⟩
   have HBk6:=Hm (H5.o.1.put ht6 hwk hwv hne6 hh6 H5.o.2.2.1 H5.o.2.2.2 H5.o.2.1.vrow.lt ho6.size)
   have hnx:∀ b,b=wr.heap.size→¬(b=pb∨some b=kv.ownBlock∨some b=vv.ownBlock):=by
    rintro b rfl (e|e|e)
    ·omega
    ·have:=(HBk.o.tab.krow.lt _ e.symm).2;omega
    ·have:=(HBk.o.tab.vrow.lt_own _ e.symm).2;omega
   have hbx6:=ho6.heap HBx5.o (hnx _ rfl)
   have q0:w6.cell? ⟨wr.heap.size,0,none⟩=some (.int .u8 1):=hcell hbx6 0
   have q1:w6.cell? ⟨wr.heap.size,1,none⟩=some (.slice A7 n c7):=hcell hbx6 1
   have hqq:=hlt hbx6
   have ho26:Only w2 w6 (λb=>b=pb):=by
    refine(HO.o.trans (Only.bel (F:=λ_=>False) HB5.o) (λ_ _ h=>h.elim)).trans ho6 ?_
    rintro b hb (e|e|e)
    ·exact e
    ·have:=(HBk.o.tab.krow.lt _ e.symm).1;omega
    ·have:=(HBk.o.tab.vrow.lt_own _ e.symm).1;omega
   have hby6:Bytes w6 A7 (recB job d):=by
    refine row_only (Bytes.below HBy.o HB5.o) ho6 ?_
    rintro a ha (e|e|e)
    ·exact(HA7.o a ha).2 e
    ·have:=(HBk.o.tab.krow.lt _ e.symm).1;have:=(HA7.o a ha).1;omega
    ·have:=(HBk.o.tab.vrow.lt_own _ e.symm).1;have:=(HA7.o a ha).1;omega
   have HL6:=Hm (HLy.o w6 A7 c7 hby6)
   rw[←HN.o] at HL6
   have HO6:=Hm ho26
   have HOk6:Hd (∀ b,(ok b∨∃ a,A4=some a∧b=a.block)→w2.heap.size≤b):=⟨by
    rintro b (hb|⟨a,ha,rfl⟩)
    ·exact HOk.o b hb
    ·have h1:=HX.o.2.2.1 a ha;have h2:=HO.o.size;simp at h1;omega⟩
   have hp6:=hlt HBk6.o.head
   clear ho6 ht6 hwk hwv hne6 hh6 hnx hbx6 ho26 hby6
   rw[show byteV 1=Value.int .u8 1 from rfl] at HL6
   go_wp2_with fail
   refine HL6.o.mono ?_
   rintro e w7 ⟨hb7,v7,rfl,ho7⟩
   have h7:=HBk6.o.bel hb7
   have c1:w7.cell? ⟨pb,1,none⟩=some (.int .i64 (laid (recsOf (js.take j))).length):=hcell h7.head 1
   have f1:=hfree h7.head 1
   have hp7:=hlt h7.head
   have HBk7:=Hm (h7.setSize (laid (recsOf (js.take (j+1)))).length)
   rw[HT.o.1,List.length_append] at HBk7
   have HO7:=Hm ((HO6.o.trans (Only.bel (F:=λ_=>False) hb7) (λ_ _ h=>h.elim)).trans (Only.grown (F:=λb=>b=pb) (grownBy_cell w7 pb 1 (.int .i64 (((laid (recsOf (js.take j))).length+(layF 1 (recB job d)).length:Nat)))) (λg e=>by cases e;rfl)) (λ_ _ h=>h))
   obtain⟨A8,c8,rfl,-⟩:=own_row ho7
   have hbnd:(laid (recsOf (js.take j))).length+(layF 1 (recB job d)).length≤4194304:=by
    have:=HBd0.o
    rw[HT.o.1,List.length_append] at this
    exact this
   clear hb7 ho7 h7 q0 q1
   have HLl:Hd ((laid (recsOf (js.take (j+1)))).length=(laid (recsOf (js.take j))).length+(layF 1 (recB job d)).length):=⟨by rw[HT.o.1,List.length_append]⟩
   generalize (laid (recsOf (js.take j))).length=s0 at *
   generalize (layF 1 (recB job d)).length=s1 at *
   have hws:IntKind.i64.wrap ((s0:Int)+s1)=(s0:Int)+s1:=by simp[IntKind.wrap,IntKind.bits,IntKind.signed];omega
   rw[show (((s0+s1:Nat)):Int)=(s0:Int)+s1 from by omega] at HBk7 HO7
   go_wp2_with fail
   go_roundw
   case rel =>
    refine⟨j+1,_,kv',vv',by omega,by go_num,HO7.o,?_,HOk6.o⟩
    rw[HLl.o,HT.o.2.1,HT.o.2.2.1]
    exact HBk7.o
   case measure=>simp[intOf];omega
  ·obtain rfl:j=js.length:=by omega
   rw[List.take_length] at HBk
   have hA:0 < L.length→∀ a,A=some a→a.block < w.heap.size:=λh0 a ha=>by
    obtain⟨b,off,e,hc⟩:=HF.o.sure 0 (by simpa using h0)
    rw[ha] at e
    cases e
    exact World.block_lt_of_cell? w _ hc
   have hpw:pf < w.heap.size:=hlt HF.o.head
   have hpp:=HPB.o
   have hfr:=HFl2.o.only' HO.o (by omega) (λh0 a ha e=>by have:=hA h0 a ha;omega)
   have hLl:(laid (recsOf js)).length≤L.length:=by rw[HLd.o,List.length_append];omega
   have hLt:L.take (laid (recsOf js)).length=laid (recsOf js):=by rw[HLd.o];exact List.take_left
   have HC:=Hm (cut_at pf room L A c (laid (recsOf js)).length hLl wr hfr)
   rw[hLt] at HC
   have h1:wr.cell? ⟨pb,1,none⟩=some (.int .i64 (laid (recsOf js)).length):=hcell HBk.o.head 1
   have hpr:=hlt HBk.o.head
   have hsr:=HO.o.size
   have hs2:=HB2.o.size
   have HFin:=Hm (And.intro hpw (And.intro hsr (And.intro hs2 hpr)))
   clear hA hfr hLl hLt hpw hpp
   generalize hz:laid (recsOf js)=Z at *
   have HZ:=Hm hz
   clear hz
   go_wp2_with fail
   refine HC.o.mono ?_
   rintro e w9 ⟨rfl,hg9,A9,c9,hf9,hfr9⟩
   have hpw:=HFin.o.1
   have hpp:=HPB.o
   have ho9:Only wr w9 (λb=>b=pf):=Only.grown hg9 (λg e=>by cases e;rfl)
   have hbk9:=HBk.o.only ho9 (by omega) (λb hb e=>by have:=(HBk.o.tab.krow.lt _ hb).1;omega) (λb hb e=>by have:=(HBk.o.tab.vrow.lt_own _ hb).1;omega) (λb hb e=>by have:=HOk.o b hb;omega)
   have HE:Hd (OpenedPost w pf room js (.returned (.tuple #[.pointer (some ⟨pb,0,none⟩),.int .i64 0])) w9):=⟨pb,w2.heap.size,ok,kv,vv,A9,c9,rfl,by
     refine((Only.bel (F:=λb=>b=pf) HB2.o).trans HO.o (λb hb e=>by omega)).trans ho9 (λ_ _ e=>e),by omega,hs2,by rw[HZ.o];exact hbk9,by rw[HZ.o];exact hf9,λb hb=>Nat.le_trans hs2 (HOk.o b hb),λa ha=>by
      have h9:=hfr9 a ha
      refine⟨by omega,by omega,λhb=>by have:=HBk.o.tab.vrow.lt _ hb;omega,λe=>by have:=(HBk.o.tab.krow.lt _ e).2;omega,λe=>by have:=(HBk.o.tab.vrow.lt_own _ e).2;omega⟩⟩
   clear hg9 hf9 hfr9 ho9 hbk9 hpp hpw
   go_wp2
   go_ret2
   exact HE.o
theorem copied_blk (x:Block) (hx:x.ins.length≤1000) (hax:∀ i∈x.ins,i.args.length≤1000) (ok:Nat→Prop) (v:Value) (w:World) (hv:Kd.SK kIns w ok x.ins v) :
  Calls Tryz.prog 49 #[.agg #[v,.int .u8 x.fin.kind,.int .i64 x.fin.a,.int .i64 x.fin.to_,.int .i64 x.fin.else_]] w λe w'=>∃ v',e=.returned (.agg #[v',.int .u8 x.fin.kind,.int .i64 x.fin.a,.int .i64 x.fin.to_,.int .i64 x.fin.else_])∧Bel w w'∧Kd.SK kIns w' (λb=>w.heap.size≤b) x.ins v':=by
 obtain⟨ins,ek,ea,et,es⟩:=x
 dsimp only at *
 obtain⟨A,c,rfl,hc1,-⟩:=sk_form hv
 have HV:=Hm hv
 have HA:=Hm hax
 clear hv hax
 go_enter Tryz.func49,Tryz.ntmps49
 go_wp2_with fail
 obtain⟨w0,hw0⟩:∃ w0,w0=((w.alloc (.cells #[.slice A ins.length c,.int .u8 ek,.int .i64 ea,.int .i64 et,.int .i64 es] 97)).alloc (.cells #[.slice none 0 0,.int .u8 0,.int .i64 0,.int .i64 0,.int .i64 0] 97)).alloc (.cells #[.slice none 0 0,.int .u8 ek,.int .i64 ea,.int .i64 et,.int .i64 es] 97):=⟨_,rfl⟩
 obtain⟨q,hq⟩:∃ q,q=w.heap.size:=⟨_,rfl⟩
 have HB0:Hd (Bel w w0):=⟨by rw[hw0];exact bA (bA (bA (bR w) _) _) _⟩
 have K1:Hd (w0.heap[q+1]?=some (.cells #[.slice none 0 0,.int .u8 0,.int .i64 0,.int .i64 0,.int .i64 0] 97 (0,0))):=⟨by rw[hw0,hq];exact hold (hnew (by simp only[World.size_alloc])) (by simp only[World.size_alloc];omega)⟩
 have K2:Hd (w0.heap[q+1+1]?=some (.cells #[.slice none 0 0,.int .u8 ek,.int .i64 ea,.int .i64 et,.int .i64 es] 97 (0,0))):=⟨by rw[hw0,hq];exact hnew (by simp only[World.size_alloc])⟩
 have HS0:Hd (w0.heap.size=q+1+1+1):=⟨by rw[hw0,hq];simp⟩
 have HQ:=Hm hq
 rw[←hw0,←hq]
 clear hw0 hq
 go_loopw [12] (λi wr=>∃ (j:Nat) (ok:Nat→Prop) (vj:Value),j≤ins.length∧i=.int .i64 j∧Only w0 wr (λb=>b=q+1+1)∧wr.heap[q+1+1]?=some (.cells #[vj,.int .u8 ek,.int .i64 ea,.int .i64 et,.int .i64 es] 97 (0,0))∧KRow kIns wr (q+1+1+1) 91 ok (ins.take j) vj∧∀ b,ok b→q+1+1+1≤b) (λi _=>ins.length-(intOf i).toNat)
 case atStart=>exact⟨0,λ_=>False,_,Nat.zero_le _,rfl,Only.refl _ _,K2.o,KRow.none _ _ _ _ (λ_ h=>h.elim),λ_ h=>h.elim⟩
 case round =>
  obtain⟨j,ok',vj,hj,rfl,ho,hh,hk,hok⟩:=hrel
  obtain⟨Aj,cj,rfl,-⟩:=hk.form
  have HO:=Hm ho
  have HH:=Hm hh
  have HK:=Hm hk
  have HOk:=Hm hok
  have hjl:(ins.take j).length=j:=by rw[List.length_take];omega
  rw[hjl] at HH HK
  clear ho hh hk hok
  by_cases hlt':j < ins.length
  ·have hsr:=HO.o.size
   have HBw:Hd (Bel w wr):=⟨(Only.belLeft HB0.o HO.o).toBel (λb hb e=>by have:=HQ.o;omega)⟩
   obtain⟨b,off,c',v1,e,-,hfit,hsk,z0,z1,z2,z3,z4,z5,z6⟩:=sk_ins (sk_bel HV.o HBw.o) j hlt'
   simp only[Value.slice.injEq] at e
   obtain⟨rfl,-,rfl⟩:=e
   have hal:=HA.o _ (List.getElem_mem hlt')
   have htk:=List.take_succ_eq_append_getElem hlt'
   generalize ins[j]=y at *
   obtain⟨A1,c1,rfl,hc1',-,hi1,hwf,-⟩:=ski hsk
   have HWf:=Hm hwf
   have HI1:=Hm hi1
   have HT:=Hm (And.intro htk hfit)
   clear htk hfit hsk hi1 hwf
   have hpl:q+1+1 < wr.heap.size:=hlt HH.o
   go_wp2_with (first
    |(at_builtin;refine app iInt Tryz.underlying29 rfl (.const (.slice none 0 0)) (.tmp 17) rfl (v:=.slice none 0 0) rfl (own_none _ (wr.heap.size+1) 3 1 0 rfl) (show wr.heap.size+1≤(wr.alloc _).heap.size by simp) (A:=A1) (m:=y.args.length) (c:=c1) rfl (Row.below HI1.o (bA (bR wr) _)) (by simp) ints_one (by omega) ?_)
    |fail)
   intro v3 w3 ho3 hg3
   have hb3:Bel wr w3:=bG (bA (bR wr) _) hg3 (λk hk=>by simp[Value.ownBlock] at hk)
   have ho3':OwnI w3 (wr.heap.size+1) v3 y.args:=by unfold OwnI;simpa using ho3
   obtain⟨A3,c3,rfl,hrow3,-,hfr3,hcap3,-⟩:=own_row ho3'
   have hc3:=own_cap ho3'
   have hbx:w3.heap[wr.heap.size]?=some (.cells #[.int .u8 y.kind,.int .u8 y.op,.int .i64 y.d,.int .i64 y.a,.int .i64 y.b,.int .i64 y.n,.slice A1 y.args.length c1] 91 (0,0)):=by
    rw[hg3.block _ (by simp) (by simp[Value.ownBlock])];exact hnew rfl
   have x6f:=hfree hbx 6
   have hbl:=hlt hbx
   have x0:w3.cell? ⟨wr.heap.size,0,none⟩=some (.int .u8 y.kind):=hcell hbx 0
   have x1:w3.cell? ⟨wr.heap.size,1,none⟩=some (.int .u8 y.op):=hcell hbx 1
   have x2:w3.cell? ⟨wr.heap.size,2,none⟩=some (.int .i64 y.d):=hcell hbx 2
   have x3:w3.cell? ⟨wr.heap.size,3,none⟩=some (.int .i64 y.a):=hcell hbx 3
   have x4:w3.cell? ⟨wr.heap.size,4,none⟩=some (.int .i64 y.b):=hcell hbx 4
   have x5:w3.cell? ⟨wr.heap.size,5,none⟩=some (.int .i64 y.n):=hcell hbx 5
   have x6:w3.cell? ⟨wr.heap.size,6,none⟩=some (.slice A1 y.args.length c1):=hcell hbx 6
   have hh3:=bHeap hb3 HH.o
   have p0:w3.cell? ⟨q+1+1,0,none⟩=some (.slice Aj j cj):=hcell hh3 0
   have pf0:=hfree hh3 0
   have hpl3:=hlt hh3
   have hg4:=grownBy_cell w3 wr.heap.size 6 (.slice A3 y.args.length c3)
   have ho4:Only wr (w3.setCell ⟨wr.heap.size,6,none⟩ (.slice A3 y.args.length c3)) (λb=>False):=(Only.bel (F:=λb=>False) hb3).trans (Only.grown (F:=λb=>b=wr.heap.size) hg4 (λg e=>by cases e;rfl)) (λb hb e=>by omega)
   have hfr3':∀ a,A3=some a→wr.heap.size+1≤a.block:=hfr3
   have hk4:KRow kIns (w3.setCell ⟨wr.heap.size,6,none⟩ (.slice A3 y.args.length c3)) (q+1+1+1) 91 (λb=>ok' b∨∃ a,A3=some a∧b=a.block) (ins.take j) (.slice Aj j cj):=by
    refine(HK.o.only ho4 (λ_ _ h=>h) (λ_ _ h=>h)).more (λb h=>.inl h) ?_ ?_
    ·rintro b (hb|⟨a,ha,rfl⟩) e
     ·exact HK.o.apart b hb e
     ·have:=hfr3' a ha;have:=(HK.o.lt_own _ e.symm).2;omega
    ·rintro b (hb|⟨a,ha,rfl⟩)
     ·exact Nat.lt_of_lt_of_le (HK.o.lt b hb) ho4.size
     ·have:=hc3.2 a ha;simpa using this
   have hargs:Kd.SK kI (w3.setCell ⟨wr.heap.size,6,none⟩ (.slice A3 y.args.length c3)) (λb=>ok' b∨∃ a,A3=some a∧b=a.block) y.args (.slice A3 y.args.length c3):=by
    refine⟨A3,c3,_,rfl,hcap3,hc3.1,RowIn.of (ok:=λb=>ok' b∨∃ a,A3=some a∧b=a.block) (Row.grown hrow3 hg4 (λa ha e=>by have:=hfr3' a ha;simp at e;omega)) (λa ha=>.inr ⟨a,ha,rfl⟩),mk_ints HWf.o⟩
   have HY:=Hm (kIns_mk HT.o.2 hargs)
   have HK4:=Hm hk4
   have HO4:=Hm ho4
   have HH4:Hd ((w3.setCell ⟨wr.heap.size,6,none⟩ (.slice A3 y.args.length c3)).heap[q+1+1]?=some (.cells #[.slice Aj j cj,.int .u8 ek,.int .i64 ea,.int .i64 et,.int .i64 es] 97 (0,0))):=⟨hset hh3 (by omega)⟩
   have HX3:=Hm (And.intro hfr3' hb3.size)
   clear ho3 hg3 hb3 ho3' hfr3 hcap3 hc3 hbx z0 z1 z2 z3 z4 z5 z6 hh3 hg4 ho4 hk4 hargs hfr3'
   go_wp2_with (first
    |(at_builtin;refine appK iIns Tryz.underlying92 rfl (.tmp 21) (.tmp 23) rfl (v:=.slice Aj j cj) rfl (HK4.o.bel (bA (bR _) _)) (show q+1+1+1≤((w3.setCell _ _).alloc _).heap.size by simp;omega) (q:=w3.heap.size) rfl (by simpa using row_new (w3.setCell ⟨wr.heap.size,6,none⟩ (.slice A3 y.args.length c3)) [.int .u8 y.kind,.int .u8 y.op,.int .i64 y.d,.int .i64 y.a,.int .i64 y.b,.int .i64 y.n,.slice A3 y.args.length c3] 91 (0,0)) (kIns.stay (Stays.below (bA (bR _) _)) HY.o) (by simp;omega) ?_)
    |fail)
   intro v5 w5 hk5 hg5 hw5
   have hh5:w5.heap[q+1+1]?=some (.cells #[.slice Aj j cj,.int .u8 ek,.int .i64 ea,.int .i64 et,.int .i64 es] 97 (0,0)):=by
    rw[hg5.block _ (by have:=hlt HH4.o;simp at this;simp;omega) (λe=>by have:=(HK4.o.lt_own _ e.symm).1;omega),heap_old _ _ _ (hlt HH4.o)]
    exact HH4.o
   have pf5:=hfree hh5 0
   have p05:w5.cell? ⟨q+1+1,0,none⟩=some (.slice Aj j cj):=hcell hh5 0
   have pl5:=hlt hh5
   have hbk5:=Go.Joins.block_setCell (i:=0) hh5 v5
   have ho5:Only w0 (w5.setCell ⟨q+1+1,0,none⟩ v5) (λb=>b=q+1+1):=by
    refine(((HO.o.trans HO4.o (λ_ _ h=>h.elim)).trans (Only.bel (F:=λ_=>False) (bA (bR _) (.cells #[.int .u8 y.kind,.int .u8 y.op,.int .i64 y.d,.int .i64 y.a,.int .i64 y.b,.int .i64 y.n,.slice A3 y.args.length c3] 91))) (λ_ _ h=>h.elim)).trans (Only.grown (F:=λb=>some b=(Value.slice Aj j cj).ownBlock) hg5 (λg e=>e.symm)) ?_).trans (Only.grown (F:=λb=>b=q+1+1) (grownBy_cell _ _ _ _) (λg e=>by cases e;rfl)) (λ_ _ h=>h)
    intro b hb e
    have:=(HK4.o.lt_own _ e.symm).1
    rw[HS0.o] at hb
    omega
   have hk6:KRow kIns (w5.setCell ⟨q+1+1,0,none⟩ v5) (q+1+1+1) 91 (λb=>ok' b∨∃ a,A3=some a∧b=a.block) (ins.take (j+1)) v5:=by
    rw[HT.o.1]
    refine hk5.only (Only.grown (F:=λb=>b=q+1+1) (grownBy_cell _ _ _ _) (λg e=>by cases e;rfl)) (λb hb e=>by have:=(hk5.lt_own _ hb).1;omega) ?_
    rintro b (hb|⟨a,ha,rfl⟩) e
    ·have:=HOk.o b hb;omega
    ·have:=HX3.o.1 a ha;omega
   have hok6:∀ b,(ok' b∨∃ a,A3=some a∧b=a.block)→q+1+1+1≤b:=by
    rintro b (hb|⟨a,ha,rfl⟩)
    ·exact HOk.o b hb
    ·have:=HX3.o.1 a ha;omega
   have H6:=Hm (And.intro ho5 (And.intro hk6 (And.intro hok6 hbk5)))
   obtain⟨A5,c5,rfl,-⟩:=hk5.form
   have hl5:(ins.take j++[y]).length=j+1:=by rw[List.length_append,hjl];rfl
   rw[hl5] at H6⊢
   clear hk5 hg5 hw5 hh5 hbk5 ho5 hk6 hok6 hl5 x0 x1 x2 x3 x4 x5 x6 p0 pf0
   go_wp2_with fail
   go_roundw
   case rel =>
    refine⟨j+1,_,_,by omega,by go_num,H6.o.1,?_,H6.o.2.1,H6.o.2.2.1⟩
    have:=H6.o.2.2.2
    exact this
   case measure=>simp[intOf];omega
  ·obtain rfl:j=ins.length:=by omega
   have HF:Hd (Bel w wr∧Kd.SK kIns wr (λb=>q+1+1+1≤b) ins (.slice Aj ins.length cj)):=⟨(Only.belLeft HB0.o HO.o).toBel (λb hb e=>by have:=HQ.o;omega),by
    have h:=HK.o.sk
    rw[List.take_length] at h
    refine h.stay (Stays.weaken ?_)
    rintro b (hb|hb)
    ·exact HOk.o b hb
    ·exact(HK.o.lt_own b hb.symm).1⟩
   have hk1:=HO.o.heap K1.o (by omega)
   have p0:wr.cell? ⟨q+1+1,0,none⟩=some (.slice Aj ins.length cj):=hcell HH.o 0
   have p1:wr.cell? ⟨q+1+1,1,none⟩=some (.int .u8 ek):=hcell HH.o 1
   have p2:wr.cell? ⟨q+1+1,2,none⟩=some (.int .i64 ea):=hcell HH.o 2
   have p3:wr.cell? ⟨q+1+1,3,none⟩=some (.int .i64 et):=hcell HH.o 3
   have p4:wr.cell? ⟨q+1+1,4,none⟩=some (.int .i64 es):=hcell HH.o 4
   have r0:wr.cell? ⟨q+1,0,none⟩=some (.slice none 0 0):=hcell hk1 0
   have r1:wr.cell? ⟨q+1,1,none⟩=some (.int .u8 0):=hcell hk1 1
   have r2:wr.cell? ⟨q+1,2,none⟩=some (.int .i64 0):=hcell hk1 2
   have r3:wr.cell? ⟨q+1,3,none⟩=some (.int .i64 0):=hcell hk1 3
   have r4:wr.cell? ⟨q+1,4,none⟩=some (.int .i64 0):=hcell hk1 4
   obtain⟨f0,f1,f2,f3,f4⟩:=fF5 hk1
   have hl1:=hlt hk1
   have hl2:=hlt HH.o
   clear hk1
   go_wp2
   have hG:wr.grownBy (((((wr.setCell ⟨q+1,0,none⟩ (.slice Aj ins.length cj)).setCell ⟨q+1,1,none⟩ (.int .u8 ek)).setCell ⟨q+1,2,none⟩ (.int .i64 ea)).setCell ⟨q+1,3,none⟩ (.int .i64 et)).setCell ⟨q+1,4,none⟩ (.int .i64 es)) (some (q+1)) :=
    grownBy_trans (grownBy_trans (grownBy_trans (grownBy_trans (grownBy_cell _ _ _ _) (grownBy_cell _ _ _ _)) (grownBy_cell _ _ _ _)) (grownBy_cell _ _ _ _)) (grownBy_cell _ _ _ _)
   refine bodyPost_ret (v:=.agg #[.slice Aj ins.length cj,.int .u8 ek,.int .i64 ea,.int .i64 et,.int .i64 es]) (by simp[results,Tryz.results49,go_sem,r0,r1,r2,r3,r4]) rfl ?_
   have hq:=HQ.o
   exact⟨_,rfl,bG HF.o.1 hG (λk hk=>by cases hk;omega),(HF.o.2.stay (Stays.grown hG (ok:=λb=>q+1+1+1≤b) (λb hb e=>by simp at e;omega))).stay (Stays.weaken (λb hb=>by omega))⟩
end Go.Proofs.YtjkgligohegaeaaGreatDoor
namespace Go.Proofs.YtjkgligohegaeaaGreatDoor.Bx
open Go.Conc Go.RowKit
def wpN (P:Program) (c:Go.Code) (Q:Exit→Act→World→Prop) (a:Act) (w:World):Prop :=
 ∀ (b:Frame) (k:List Item) (cs:List Frame),b.kind=.normal→∃ e a' w',Q e a' w'∧Arrives P (lone (b.at a (.code c :: k)) cs w) b k cs e a' w'
section
variable {P:Program} {Q:Exit→Act→World→Prop} {a:Act} {w:World}
theorem wpN_of {c:Go.Code} (h:c.wp P Q a w):wpN P c Q a w:=λb k cs _=>h b k cs
theorem wpN_seq {x y:Go.Code} (h:wpN P x (Exit.then (λa w=>wpN P y Q a w) Q) a w):wpN P (Go.Code.seq x y) Q a w:=by
 intro b k cs hb
 obtain⟨e,a₁,w₁,hq,harr⟩:=h b (.code y :: k) cs hb
 cases e with
 |normal =>
  obtain⟨e₂,a₂,w₂,hq₂,harr₂⟩:=hq b k cs hb
  exact⟨e₂,a₂,w₂,hq₂,.of_steps (.head step_seq harr) harr₂⟩
 |exit id=>exact⟨_,a₁,w₁,hq,.of_steps (.one step_seq) (.pass (x:=.code y) rfl (λ_ _=>.inl (by simp)) harr)⟩
 |goto l=>exact⟨_,a₁,w₁,hq,.of_steps (.one step_seq) (.pass (x:=.code y) rfl (λ_ _=>.inl (by simp)) harr)⟩
 |ret=>exact⟨_,a₁,w₁,hq,.of_steps (.one step_seq) (.pass (x:=.code y) rfl (λ_ _=>.inl (by simp)) harr)⟩
 |panic ch=>exact⟨_,a₁,w₁,hq,.of_steps (.one step_seq) (.pass (x:=.code y) rfl (λ_ _=>.inl (by simp)) harr)⟩
 |outgrown=>exact⟨_,a₁,w₁,hq,.of_steps (.one step_seq) (.pass (x:=.code y) rfl (λ_ _=>.inl (by simp)) harr)⟩
theorem calls_of_wpN {f:FuncId} {fn:Go.Func} {c:Go.Code} {args:Array Value} {R:Ending→World→Prop}
  (hf:P.funcs[f]?=some fn) (hb:fn.body=some c)
  (h:wpN P c (bodyPost P fn R) { tmps:=args++Array.replicate (fn.ntmps-args.size) undef,defers:=[] } w) :
  Calls P f args w R:=by
 intro cs
 let b:Frame:={ (default:Frame) with fn:=f,kind:=.normal }
 have henter:Frame.enter P f args .normal =
   b.at { tmps:=args++Array.replicate (fn.ntmps-args.size) undef,defers:=[] } [.code c]:=by
  simp[Frame.enter,Frame.at,hf,hb,b]
 obtain⟨e,a',w',hq,harr⟩:=h b [] cs rfl
 rw[←henter] at harr
 cases e with
 |normal =>
  obtain⟨hd,v,hr,hR⟩:=hq
  exact⟨.returned v,w',_,hR,Steps.trans harr (.one step_end),rfl,rfl,hd,rfl,fn,hf,hr⟩
 |ret =>
  obtain⟨hd,v,hr,hR⟩:=hq
  obtain⟨todo,hs⟩:=harr
  exact⟨.returned v,w',_,hR,hs,rfl,rfl,hd,rfl,fn,hf,hr⟩
 |panic chain =>
  obtain⟨hd,hR⟩:=hq
  obtain⟨todo,hs⟩:=harr
  exact⟨.panicked chain,w',_,hR,hs,rfl,rfl,hd,fn,hf⟩
 |exit id=>exact hq.elim
 |goto l=>exact hq.elim
 |outgrown=>exact⟨.outgrown,w',b,hq,harr.resolve_left (by simp[b]),rfl,trivial⟩
theorem wpN_comm {id:Nat} {o:Oper} {rest:List Oper} {v:Value} {w':World}
  (hstep:∀ (b:Frame) (k:List Item) (cs:List Frame),b.kind=.normal →
   step P (lone (b.at a (.inRegion (o :: rest).toArray (0 :: List.range' 1 rest.length) :: k)) cs w)=.next (lone ((b.at a (.inRegion (o :: rest).toArray (0 :: List.range' 1 rest.length) :: k)).finish v) cs w'))
  (h:wpList P (o :: rest).toArray Q rest (a.put o.dst v) w'):wpN P (.region id (o :: rest).toArray false) Q a w:=by
 intro b k cs hb
 have h2:wpOps P (o :: rest).toArray Q (List.range' 1 rest.length) (a.put o.dst v) w':=by
  rw[wpOps_eq_wpList rest 1 (λj=>by simp[Nat.add_comm])]
  exact h
 obtain⟨e,a',w'',q,r⟩:=wp_ops _ _ _ h2 b k cs
 refine⟨e,a',w'',q,.of_steps (.one step_region) (.of_steps (.one ?_) r)⟩
 rw[show List.range (o :: rest).toArray.size=0 :: List.range' 1 rest.length from by simp[List.range_eq_range',List.range'_succ],hstep b k cs hb,Frame.finish_at]
 simp
variable {id:Nat} {o:Oper} {rest:List Oper} {c cap s r:Nat} {buf:Array Value} {z v:Value}
theorem sel_send_res (c:Nat) (v z:Value) (i:Int) (u:Value) (ok:Bool):commResult #[scase c v z] .select i u ok=.tuple #[goInt i,.bool ok]:=by
 simp[commResult,scase,List.zipIdx_cons]
theorem sel_recv_res (c:Nat) (z u:Value) (ok:Bool):commResult #[rcase c z] .select ((0:Nat):Int) u ok=.tuple #[goInt 0,.bool ok,u]:=by
 simp[commResult,rcase,List.zipIdx_cons]
theorem one_case {α:Type} {x:α} {m:Nat} {c':α} (hm:m≠0) (h:#[x][m]?=some c'):False:=by
 rcases m with _|m
 ·exact hm rfl
 ·simp at h
theorem wpN_send_room (hg:o.guard=none) (hr:(execOp a.eval o).run P w=.ok (.comm #[scase c v z] false .select) w)
  (hc:w.heap[c]?=some (.chan cap buf false s r false)) (hroom:buf.size < cap)
  (h:wpList P (o :: rest).toArray Q rest (a.put o.dst (.tuple #[goInt 0,.bool false])) (w.setChan c cap (buf.push v) false (s+1) r false)) :
  wpN P (.region id (o :: rest).toArray false) Q a w:=by
 refine wpN_comm (λb k cs hb=>?_) h
 have:=step_lone_sel_send_room (P:=P) (k:=0) (stepG_comm (P:=P) (main:=true) (b:=b) (a:=a) (k:=k) (cs:=cs) (w:=w) (ops:=(o :: rest).toArray) (i:=0) (rest:=List.range' 1 rest.length) (o:=o) (by simp) (by simp[Region.wanted,hg]) (by rw[hb];decide) hr) rfl
  (λm c' hm hc'=>(one_case hm hc').elim) hc hroom
 rw[sel_send_res] at this
 exact this
theorem wpN_recv_some (hg:o.guard=none) (hr:(execOp a.eval o).run P w=.ok (.comm #[rcase c z] false .select) w)
  (hc:w.heap[c]?=some (.chan cap buf false s r false)) (hsome:0 < buf.size)
  (h:wpList P (o :: rest).toArray Q rest (a.put o.dst (.tuple #[goInt 0,.bool true,buf.getD 0 undef])) (w.setChan c cap (buf.extract 1 buf.size) false s (r+1) false)) :
  wpN P (.region id (o :: rest).toArray false) Q a w:=by
 refine wpN_comm (λb k cs hb=>?_) h
 have:=step_lone_sel_recv_buf (P:=P) (k:=0) (stepG_comm (P:=P) (main:=true) (b:=b) (a:=a) (k:=k) (cs:=cs) (w:=w) (ops:=(o :: rest).toArray) (i:=0) (rest:=List.range' 1 rest.length) (o:=o) (by simp) (by simp[Region.wanted,hg]) (by rw[hb];decide) hr) rfl
  (λm c' hm hc'=>(one_case hm hc').elim) hc hsome
 rw[sel_recv_res] at this
 exact this
end
end Go.Proofs.YtjkgligohegaeaaGreatDoor.Bx
namespace Go.Proofs.YtjkgligohegaeaaGreatDoor.Bx
open Go.Conc Go.RowKit
def Holds (w:World) (c room:Nat) (xs:List Value):Prop:=∃ s r,w.heap[c]?=some (.chan room xs.toArray false s r false)
structure BoxAt (w:World) (p c:Nat) (T:TypeId) (room:Nat) (xs:List Value):Prop where
 head:∃ fz,w.heap[p]?=some (.cells #[.chan (some c)] T fz)
 chan:Holds w c room xs
 fits:xs.length≤room
 small:room≤256
structure Step (w w':World) (c room:Nat) (xs:List Value):Prop where
 grown:w.grownBy w' (some c)
 chan:Holds w' c room xs
theorem Holds.lt {w:World} {c room:Nat} {xs:List Value} (h:Holds w c room xs):c < w.heap.size:=by
 obtain⟨s,r,h⟩:=h
 exact(Array.getElem?_eq_some_iff.1 h).1
theorem BoxAt.ne {w:World} {p c:Nat} {T:TypeId} {room:Nat} {xs:List Value} (h:BoxAt w p c T room xs):p≠c:=by
 rintro rfl
 obtain⟨fz,h1⟩:=h.head
 obtain⟨s,r,h2⟩:=h.chan
 rw[h1] at h2
 cases h2
theorem BoxAt.lt {w:World} {p c:Nat} {T:TypeId} {room:Nat} {xs:List Value} (h:BoxAt w p c T room xs):p < w.heap.size:=by
 obtain⟨fz,h1⟩:=h.head
 exact(Array.getElem?_eq_some_iff.1 h1).1
theorem BoxAt.step {w w':World} {p c:Nat} {T:TypeId} {room:Nat} {xs ys:List Value} (h:BoxAt w p c T room xs) (hs:Step w w' c room ys) (hy:ys.length≤room):BoxAt w' p c T room ys:=by
 refine⟨?_,hs.chan,hy,h.small⟩
 obtain⟨fz,h1⟩:=h.head
 exact⟨fz,by rw[hs.grown.block p h.lt (by simp[h.ne])];exact h1⟩
theorem BoxAt.cell {w:World} {p c:Nat} {T:TypeId} {room:Nat} {xs:List Value} (h:BoxAt w p c T room xs):w.cell? ⟨p,0,none⟩=some (.chan (some c)):=by
 obtain⟨fz,h1⟩:=h.head
 unfold World.cell?
 rw[h1]
 rfl
theorem grownBy_refl (w:World) (row:Option Nat):w.grownBy w row:=⟨rfl,rfl,rfl,Nat.le_refl _,λ_ _ _=>rfl⟩
theorem grownBy_trans {w w1 w2:World} {row:Option Nat} (h:w.grownBy w1 row) (k:w1.grownBy w2 row):w.grownBy w2 row :=
 ⟨k.os.trans h.os,k.tape.trans h.tape,k.output.trans h.output,Nat.le_trans h.size k.size,λi hi hr=>(k.block i (Nat.lt_of_lt_of_le hi h.size) hr).trans (h.block i hi hr)⟩
theorem grownBy_below {w w':World} {row:Option Nat} (hb:Below w.heap.size w w'):w.grownBy w' row:=⟨hb.os,hb.tape,hb.output,hb.size,λk hk _=>hb.block k hk⟩
theorem grownBy_set {w w':World} {c:Nat} (h:w.grownBy w' (some c)) (cap:Nat) (buf:Array Value) (s r:Nat):w.grownBy (w'.setChan c cap buf false s r false) (some c) :=
 ⟨h.os,h.tape,h.output,by simpa [World.setChan] using h.size,λk hk hr=>by
  have hne:c≠k:=λe=>hr (by rw[e])
  simp only[World.setChan]
  rw[Array.getElem?_setIfInBounds_ne hne]
  exact h.block k hk hr⟩
theorem holds_set {w:World} {c cap:Nat} {buf:Array Value} {s r:Nat} {xs:List Value} (h:c < w.heap.size) (e:buf=xs.toArray):Holds (w.setChan c cap buf false s r false) c cap xs:=by
 subst e
 exact⟨s,r,heap_setChan w c cap _ false s r false h⟩
theorem own_step {w w1 w2:World} {c room:Nat} {xs:List Value} {e:TypeId} {size n:Nat} {v:Value} {vs:List Value} (h:w1.ownsRow w.heap.size e size v n vs) (hs:Step w1 w2 c room xs) (hc:c < w.heap.size):w2.ownsRow w.heap.size e size v n vs :=
 h.kept hs.grown (by
  rcases hv:v.ownBlock with _|k
  ·exact .inl rfl
  ·exact .inr (λe=>by have:=(h.lt k hv).1;cases e;omega))
end Go.Proofs.YtjkgligohegaeaaGreatDoor.Bx
namespace Go.Proofs.YtjkgligohegaeaaGreatDoor.Bx
open Go.Conc Go.RowKit
theorem put_nil (v:Value) (w:World):Calls Tryz.prog 35 #[.pointer none,v] w λe w'=>e=.returned (.int .i64 1)∧w=w':=by
 go_enter Tryz.func35,Tryz.ntmps35
 go_wp2
 go_ret
 exact⟨rfl,rfl⟩
theorem put_room (p c room:Nat) (xs:List Value) (v:Value) (w:World) (h:BoxAt w p c 162 room xs) (hr:xs.length < room) :
  Calls Tryz.prog 35 #[.pointer (some ⟨p,0,none⟩),v] w λe w'=>e=.returned (.int .i64 0)∧Step w w' c room (xs++[v]):=by
 have hcell:=h.cell
 obtain⟨s,r,hc⟩:=h.chan
 have hlt:=h.chan.lt
 have H:=Hm hc
 clear h hc
 refine calls_of_wpN Tryz.func35 rfl ?_
 simp only[Tryz.ntmps35,List.size_toArray,List.length_cons,List.length_nil,Nat.reduceAdd,Nat.reduceSub,Array.replicate_succ,Array.replicate_zero,List.push_toArray,List.append_toArray,List.nil_append,List.cons_append]
 refine wpN_seq (wpN_of ?_)
 go_wp2
 refine wpN_seq (wpN_of ?_)
 go_wp2
 refine wpN_seq (wpN_of ?_)
 go_wp2
 refine wpN_seq (wpN_send_room (v:=v) (z:=.slice none 0 0) rfl (by simp[go_sem,execOp,scase,Act.eval]) H.o (by simpa using hr) ?_)
 go_wp2
 refine wpN_of ?_
 go_wp2
 go_ret
 exact⟨rfl,grownBy_set (grownBy_refl _ _) _ _ _ _,holds_set hlt (by simp)⟩
theorem take_some (p c room:Nat) (x:Value) (xs:List Value) (w:World) (h:BoxAt w p c 162 room (x :: xs)) :
  Calls Tryz.prog 32 #[.pointer (some ⟨p,0,none⟩)] w λe w'=>e=.returned (.tuple #[x,.bool true])∧Step w w' c room xs:=by
 have hcell:=h.cell
 obtain⟨s,r,hc⟩:=h.chan
 have hlt:=h.chan.lt
 have H:=Hm hc
 clear h hc
 refine calls_of_wpN Tryz.func32 rfl ?_
 simp only[Tryz.ntmps32,List.size_toArray,List.length_cons,List.length_nil,Nat.reduceAdd,Nat.reduceSub,Array.replicate_succ,Array.replicate_zero,List.push_toArray,List.append_toArray,List.nil_append,List.cons_append]
 refine wpN_seq (wpN_of ?_)
 go_wp2
 refine wpN_seq (wpN_of ?_)
 go_wp2
 refine wpN_seq (wpN_of ?_)
 go_wp2
 refine wpN_seq (wpN_recv_some (z:=.slice none 0 0) rfl (by simp[go_sem,execOp,rcase,Act.eval]) H.o (by simp) ?_)
 go_wp2
 refine wpN_of ?_
 go_wp2
 go_ret2
 exact⟨rfl,grownBy_set (grownBy_refl _ _) _ _ _ _,holds_set hlt (by simp)⟩
theorem len_nil (w:World):Calls Tryz.prog 71 #[.pointer none] w λe w'=>e=.returned (.int .i64 0)∧w=w':=by
 go_enter Tryz.func71,Tryz.ntmps71
 go_wp2
 go_ret
 exact⟨rfl,rfl⟩
theorem infoE:(Tryz.prog.info? 38).map (λi=>(i.zero,i.size,i.bytes))=some (some (.slice none 0 0),1,24):=by kernel_rfl
theorem make_chan (n:Nat) (hn:n≤256) (w:World):(Instr.makeChan 160 (.int .i64 (n:Int))).run Tryz.prog w=.ok (.chan (some w.heap.size)) (w.alloc (.chan n #[] false 0 0 false)):=by
 obtain⟨i0,hi,hz0,hz1,hz2⟩:=info_parts infoE
 exact run_makeChan (P:=Tryz.prog) (w:=w) Tryz.underlying160 hi .i64 n (by omega) (by rw[hz2];omega)
theorem new_ok (n:Nat) (w:World) (h1:1≤n) (h2:n≤256) :
  Calls Tryz.prog 50 #[.int .i64 n] w λe w'=>∃ p c,e=.returned (.tuple #[.pointer (some ⟨p,0,none⟩),.int .i64 0])∧BoxAt w' p c 162 n []∧Below w.heap.size w w'∧w.heap.size≤p∧w.heap.size≤c:=by
 have hm:=make_chan n h2
 go_enter Tryz.func50,Tryz.ntmps50
 go_wp2
 go_ret2
 refine⟨w.heap.size+1,w.heap.size,rfl,⟨?_,?_,Nat.zero_le _,h2⟩,((Below.refl _ _).alloc (Nat.le_refl _) _).alloc (by simp) _,by omega,Nat.le_refl _⟩
 ·have:=heap_new (w.alloc (.chan n #[] false 0 0 false)) (.cells #[.chan (some w.heap.size)] 162)
  rw[World.size_alloc] at this
  exact⟨_,this⟩
 ·refine⟨0,0,?_⟩
  rw[heap_old _ _ _ (by simp)]
  exact heap_new _ _
end Go.Proofs.YtjkgligohegaeaaGreatDoor.Bx
