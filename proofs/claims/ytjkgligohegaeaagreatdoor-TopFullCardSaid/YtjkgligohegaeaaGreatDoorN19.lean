/- Lemmas of the row. -/
import Derived.Test.YtjkgligohegaeaaGreatDoorN18
set_option linter.all false
set_option maxRecDepth 20000
set_option maxHeartbeats 12800000
namespace Go.Proofs.YtjkgligohegaeaaGreatDoor
open Go.RowKit
structure JsOk (st:FSt):Prop where
 rise:st.js.Pairwise (λa b=>a.1 < b.1)
 recs:∀ p∈st.js,p.1 < 16∧(recB p.1 p.2).length≤65536
 few:st.js.length≤16
 jobs:∀ p∈st.js,p.1 < st.fs.length
structure StOk (st:FSt):Prop where
 fs1:1≤st.fs.length
 fs16:st.fs.length≤16
 tl:Ls.bad st.t.lease=false
 tw:Ls.bad st.t.wait=false
 tm:Ls.bad st.t.most=false
 twm:¬st.t.most < st.t.wait
 wk:st.workers≤3
 now:st.now=0
theorem Farm.turn2 {w w':World} {ow ow':Nat→Nat} {x:Nat} {st st':FSt} {h h':Hds} {lt:List (List (List UInt8))} {I:Nat→Prop} (f:Farm w ow x st h lt) (t:Turn w w' ow ow' I) (hI:∀ n,I n→n < 10)
  (head:w'.heap[x]?=some (.cells (farmCells st' h') 114 (0,0))) (hst:st'.fs=st.fs∧st'.box=st.box∧st'.workers=st.workers) (hh:h'.lv=h.lv∧h'.bv=h.bv∧h'.bs=h.bs∧h'.bxs=h.bxs)
  (file:FileAt w' h'.pf st'.room (laid (recsOf st'.js)) h'.A h'.c) (of_:ow' h'.pf=2) (oA:0 < (laid (recsOf st'.js)).length→∀ a,h'.A=some a→ow' a.block=0) (hn:∀ b,w'.heap.size≤b→ow' b=0):Farm w' ow' x st' h' lt:=by
 have z:=t.zero
 obtain⟨s1,s2,s3⟩:=hst
 obtain⟨h1,h2,h3,h4⟩:=hh
 refine⟨head,(t.own (hlt f.head)).trans f.ox,by rw[s1,h1];exact f.funcs.stay t.stays,file,of_,oA,?_,λi hi=>?_,λi hi=>?_,by rw[s3,h3,h4];exact f.lens,hn⟩
 ·rw[h2,h3]
  obtain⟨Ab,cb,e1,e2,e3,e4⟩:=f.row
  refine⟨Ab,cb,e1,e2,t.row e3 e4,λa ha=>?_⟩
  rw[t.own (row_lt e3 (by rw[List.length_map,f.lens.1];omega) a ha)]
  exact e4 a ha
 ·have hi':i < h.bs.length:=by rw[←h3];exact hi
  obtain⟨b1,b2,b3⟩:=f.boxes i hi'
  have hl1:h.bs[i].1 < w.heap.size:=b1.lt
  have hl2:h.bs[i].2 < w.heap.size:=b1.chan.lt
  have e:h'.bs[i]=h.bs[i]:=by simp only[h3]
  rw[e,h4,s2]
  exact⟨b1.turn t (by rw[b2];exact z) (by rw[b3];exact λe=>by have:=hI _ e;omega),(t.own hl1).trans b2,(t.own hl2).trans b3⟩
 ·have hi':i < h.bs.length:=by rw[←h3];exact hi
  have e:h'.bxs.getD i []=h.bxs.getD i []:=by rw[h4]
  simp only[e]
  exact⟨(f.letters i hi').1,λj h1 h2=>((f.letters i hi').2 j h1 h2).turn t⟩
def StartPost (w:World) (ow:Nat→Nat) (x:Nat) (st:FSt) (h:Hds) (lt:List (List (List UInt8))) (w':World):Prop :=
 ∃ ow' h' jobs,Turn w w' ow ow' (λn=>n=2∨n=5)∧Farm w' ow' x st h' lt∧FarmUp w' ow' st h' jobs 0∧h'.bs=h.bs∧h'.pf=h.pf∧(st.js=[]→jobs=List.replicate st.fs.length Ls.Job.zero)
theorem start_ok (w:World) (ow:Nat→Nat) (x:Nat) (st:FSt) (h:Hds) (lt:List (List (List UInt8))) (f:Farm w ow x st h lt) (hj:JsOk st) (hs:StOk st) (hbp:h.bp.oneCell'=true) (htp:h.tp.oneCell'=true) :
  Calls Tryz.prog 37 #[.pointer (some ⟨x,0,none⟩)] w λe w'=>e=.returned (.tuple #[])∧StartPost w ow x st h lt w':=by
 have HOp:Hd (Calls Tryz.prog 73 #[.pointer (some ⟨h.pf,0,none⟩)] w (OpenedPost w h.pf st.room st.js)):=⟨by
  have:=f.file
  rw[←List.append_nil (laid (recsOf st.js))] at this
  exact open_file h.pf st.room st.js hj.rise hj.recs hj.few [] (by decide) h.A h.c w this⟩
 have HFm:=Hm f
 have HJ:=Hm hj
 have HS:=Hm hs
 have c9:w.cell? ⟨x,9,none⟩=some (.pointer (some ⟨h.pf,0,none⟩)):=f.cell 9
 have hp:=f.size
 clear f hj hs
 go_enter Tryz.func37,Tryz.ntmps37
 go_wp2_with fail
 refine HOp.o.mono ?_
 rintro e w1 ⟨pb,base,ok,kv,vv,A1,c1,rfl,ho1,hpb1,hbs1,hbk1,hf1,hok1,hA1⟩
 have hxp:x≠h.pf:=λe=>by have h1:=HFm.o.ox;have h2:=HFm.o.of_;rw[e,h2] at h1;cases h1
 have hh1:=ho1.heap HFm.o.head hxp
 have c10:w1.cell? ⟨x,10,none⟩=some h.bp:=hcell hh1 10
 have f10:=hfree hh1 10
 have hp1:=hlt hh1
 have HO1:=Hm (And.intro ho1 (And.intro hpb1 (And.intro hbs1 (And.intro hbk1 (And.intro hf1 (And.intro hok1 hA1))))))
 have HH1:=Hm hh1
 clear ho1 hpb1 hbs1 hbk1 hf1 hok1 hA1 hxp hh1
 go_wp2_with fail
 obtain⟨w2,hw2⟩:∃ w2,w2=w1.setCell ⟨x,10,none⟩ (.pointer (some ⟨pb,0,none⟩)):=⟨_,rfl⟩
 have hh2:w2.heap[x]?=some (.cells (farmCells st { h with bp:=.pointer (some ⟨pb,0,none⟩) }) 114 (0,0)):=by
  rw[hw2,Go.Joins.block_setCell HH1.o _]
  rfl
 have hg2:w1.grownBy w2 (some x):=by rw[hw2];exact grownBy_cell _ _ _ _
 rw[←hw2]
 clear hw2 c10 f10 c9
 have HH2:=Hm hh2
 have HG2:=Hm hg2
 obtain⟨Al,cl,hlv,-⟩:=sk_form HFm.o.funcs
 have d2:w2.cell? ⟨x,2,none⟩=some (.int .u64 st.t.lease):=hcell hh2 2
 have d3:w2.cell? ⟨x,3,none⟩=some (.int .u64 st.t.wait):=hcell hh2 3
 have d4:w2.cell? ⟨x,4,none⟩=some (.int .u64 st.t.most):=hcell hh2 4
 have d7:w2.cell? ⟨x,7,none⟩=some (.slice Al st.fs.length cl):=by rw[←hlv];exact hcell hh2 7
 have d8:w2.cell? ⟨x,8,none⟩=some (.int .u64 st.now):=hcell hh2 8
 rw[HS.o.now] at d8
 have d11:w2.cell? ⟨x,11,none⟩=some h.tp:=hcell hh2 11
 have g11:=hfree hh2 11
 have hp2:=hlt hh2
 have HN:=Hm (λ(wx:World)=>Ls.new_ok st.fs.length st.t 0 wx HS.o.fs1 HS.o.fs16 HS.o.tl HS.o.tw HS.o.tm HS.o.twm (by omega))
 have hw0:IntKind.u64.wrap 0=0:=rfl
 clear hh2 hg2 hp hp1
 refine rgn [.rd 0,.rd 1,.rd 2,.rd 3,.rd 4,.rd 5,.rd 6,.rd 7,.rd 8,.rd 9,.rd 10,.rd 11,.rd 12,.rd 13,.rd 14,.rd 15,.hv 16 [0],.rd 17,.rd 18,.rd 19,.rd 20,.rd 21,.hv 22 [19]] (n:=54) rfl ?_
 iterate 16 (refine line_rd rfl (λK hK=>?_);go_simp;refine hK _ ?_;clear hK K)
 refine line_hv rfl ?_
 go_wp2_with fail
 refine(HN.o _).mono ?_
 rintro e w3 ⟨pt,Bt,rfl,ht3,hb3',hpt,hBt⟩
 have hb3:Bel w2 w3:=bU hb3'
 have hh3:=bHeap hb3 HH2.o
 replace d11:w3.cell? ⟨x,11,none⟩=some h.tp:=hcell hh3 11
 replace g11:=hfree hh3 11
 have hp3:=hlt hh3
 have H3:=Hm (And.intro ht3 (And.intro hb3 (And.intro (show w2.heap.size≤pt from hpt) (show w2.heap.size≤Bt from hBt))))
 have HH3:=Hm hh3
 clear ht3 hb3' hb3 hpt hBt hh3 d2 d3 d4 d7 d8 hp2
 go_wp2_with fail
 refine⟨?_,?_⟩
 ·simp only[Again,slotOf]
  go_simp
 iterate 5 (refine line_rd rfl (λK hK=>?_);go_simp;refine hK _ ?_;clear hK K)
 refine line_hv rfl ?_
 go_wp2_with fail
 refine⟨?_,?_⟩
 ·simp only[Again,slotOf]
  go_simp
 unfold Line
 obtain⟨w4,hw4⟩:∃ w4,w4=w3.setCell ⟨x,11,none⟩ (.pointer (some ⟨pt,0,none⟩)):=⟨_,rfl⟩
 have hh4:w4.heap[x]?=some (.cells (farmCells st { h with bp:=.pointer (some ⟨pb,0,none⟩),tp:=.pointer (some ⟨pt,0,none⟩) }) 114 (0,0)):=by
  rw[hw4,Go.Joins.block_setCell HH3.o _]
  rfl
 have hg4:w3.grownBy w4 (some x):=by rw[hw4];exact grownBy_cell _ _ _ _
 rw[←hw4]
 clear hw4 d11 g11 hp3
 have ho14:Only w1 w4 (λb=>b=x):=((Only.grown (F:=λb=>b=x) HG2.o (λg e=>by cases e;rfl)).trans (Only.bel (F:=λ_=>False) H3.o.2.1) (λ_ _ h=>h.elim)).trans (Only.grown (F:=λb=>b=x) hg4 (λg e=>by cases e;rfl)) (λ_ _ h=>h)
 have hxl:=HFm.o.size
 have hs1:=HO1.o.1.size
 have hs2:=HG2.o.size
 have hpb1:=HO1.o.2.1
 have hbs1:=HO1.o.2.2.1
 have hpt3:=H3.o.2.2.1
 have hBt3:=H3.o.2.2.2
 have hbk4:=HO1.o.2.2.2.1.only ho14 (by omega) (λb hb e=>by have:=(HO1.o.2.2.2.1.tab.krow.lt _ hb).1;omega) (λb hb e=>by have:=(HO1.o.2.2.2.1.tab.vrow.lt_own _ hb).1;omega) (λb hb e=>by have:=HO1.o.2.2.2.2.2.1 b hb;omega)
 have ht4:Ls.TabAt w4 pt Bt (List.replicate st.fs.length Ls.Job.zero) st.t 0:={ H3.o.1 with head:=by rw[hg4.block _ H3.o.1.lt.1 (by simp;omega)];exact H3.o.1.head,body:=by rw[hg4.block _ H3.o.1.lt.2 (by simp;omega)];exact H3.o.1.body }
 have c10:w4.cell? ⟨x,10,none⟩=some (.pointer (some ⟨pb,0,none⟩)):=hcell hh4 10
 have hp4:=hlt hh4
 have HJb:=Hm (bjobs_any pb h.pf base ok _ _ kv vv _ w4 hbk4)
 have H4:=Hm (And.intro hh4 (And.intro ho14 (And.intro hbk4 ht4)))
 clear hh4 hg4 ho14 hbk4 ht4 hs1 hs2 hxl hpb1 hbs1 hpt3 hBt3
 go_wp2_with fail
 refine HJb.o.mono ?_
 rintro e w5 ⟨v5,rfl,hb5,ho5⟩
 obtain⟨A5,c5,rfl,hr5,-,hfr5,-⟩:=own_row ho5
 have hkl:(keysOf st.js).length=st.js.length:=by simp[keysOf]
 rw[hkl]
 have HB5:=Hm (And.intro hb5 (And.intro hr5 hfr5))
 have hfew:=HJ.o.few
 clear hb5 ho5 hr5 hfr5 hkl c10 hp4
 go_wp2_with fail
 obtain⟨wl,hwl⟩:∃ wl,wl=w5:=⟨_,rfl⟩
 rw[←hwl] at HB5⊢
 clear hwl w5
 go_loopw [43] (λi wr=>∃ (j:Nat) (jobs:List Ls.Job),j≤st.js.length∧i=.int .i64 j∧Ls.Kept wl wr pt Bt∧Ls.TabAt wr pt Bt jobs st.t 0∧jobs.length=st.fs.length∧(∀ k (hk:k < jobs.length),jobs[k].done=decide (k∈(st.js.take j).map (·.1)))∧(j=0→jobs=List.replicate st.fs.length Ls.Job.zero)) (λi _=>st.js.length-(intOf i).toNat)
 case atStart=>exact⟨0,_,Nat.zero_le _,rfl,Ls.Kept.refl _ _ _,H4.o.2.2.2.old HB5.o.1,by simp,λk hk=>by simp[Ls.Job.zero],λ_=>rfl⟩
 case round =>
  obtain⟨j,jobs,hj,rfl,hk,ht,hlen,hdn,hzz⟩:=hrel
  have HZz:=Hm hzz
  have HK:=Hm hk
  have HT:=Hm ht
  have HD:=Hm (And.intro hlen hdn)
  clear hk ht hlen hdn hzz
  by_cases hltj:j < st.js.length
  ·have hjk:j < (keysOf st.js).length:=by simpa [keysOf] using hltj
   obtain⟨b5,o5,rfl,z5⟩:=ints_get HB5.o.2.1 j hjk
   have hke:(keysOf st.js)[j]=(st.js[j].1:Int):=by simp[keysOf]
   rw[hke] at z5
   have hne5:b5≠pt∧b5≠Bt:=by
    have h1:=HB5.o.2.2 _ rfl
    have h2:=H4.o.2.2.2.lt
    dsimp only at h1
    omega
   have z5':wr.cell? ⟨b5,o5+j,none⟩=some (.int .i64 st.js[j].1):=(cell_of_heap (a:=⟨b5,o5+j,none⟩) (HK.o.block b5 (World.block_lt_of_cell? wl _ z5) hne5.1 hne5.2)).trans z5
   have hh5:wr.heap[x]?=some (.cells (farmCells st { h with bp:=.pointer (some ⟨pb,0,none⟩),tp:=.pointer (some ⟨pt,0,none⟩) }) 114 (0,0)):=by
    have h1:=H3.o.2.2.1
    have h2:=H3.o.2.2.2
    have h3:=HG2.o.size
    have h4:=HO1.o.1.size
    have h5:=HFm.o.size
    rw[HK.o.block x (by have:=hlt H4.o.1;have:=HB5.o.1.size;omega) (by omega) (by omega)]
    exact bHeap HB5.o.1 H4.o.1
   have d11:wr.cell? ⟨x,11,none⟩=some (.pointer (some ⟨pt,0,none⟩)):=hcell hh5 11
   have hpx:=hlt hh5
   have HX:Hd (st.js[j].1 < jobs.length):=⟨by rw[HD.o.1];exact HJ.o.jobs _ (List.getElem_mem hltj)⟩
   have HDn:=Hm (Ls.done_in pt Bt jobs st.t 0 st.js[j].1 wr HT.o HX.o)
   clear hjk hke z5 hne5 hh5
   go_wp2_with fail
   refine HDn.o.mono ?_
   rintro e w6 ⟨hk6,h6⟩
   have h6':∃ v jobs',e=.returned v∧Ls.TabAt w6 pt Bt jobs' st.t 0∧jobs'.length=st.fs.length∧∀ k (hk:k < jobs'.length),jobs'[k].done=decide (k∈(st.js.take (j+1)).map (·.1)):=by
    have htk:(st.js.take (j+1)).map (·.1)=(st.js.take j).map (·.1)++[st.js[j].1]:=by rw[List.take_succ_eq_append_getElem hltj,List.map_append];rfl
    have hmem:∀ k,(k∈(st.js.take (j+1)).map (·.1))↔(k∈(st.js.take j).map (·.1)∨k=st.js[j].1):=λk=>by rw[htk,List.mem_append,List.mem_singleton]
    split at h6
    ·rename_i hd
     refine⟨_,jobs,h6.1,h6.2,HD.o.1,λk hk=>?_⟩
     rw[HD.o.2 k hk]
     by_cases e:k=st.js[j].1
     ·have h1:=HD.o.2 _ HX.o
      rw[hd] at h1
      have h2:st.js[j].1∈(st.js.take j).map (·.1):=by simpa using h1.symm
      rw[decide_eq_decide,hmem,e]
      exact⟨λh=>.inl h,λ_=>h2⟩
     ·rw[decide_eq_decide,hmem]
      exact⟨λh=>.inl h,λh=>h.resolve_right e⟩
    ·refine⟨_,_,h6.1,h6.2,by rw[List.length_set];exact HD.o.1,λk hk=>?_⟩
     rw[List.length_set] at hk
     rw[List.getElem_set]
     split
     ·rename_i e
      have:k∈(st.js.take (j+1)).map (·.1):=(hmem k).2 (.inr e.symm)
      show true=_
      exact(decide_eq_true this).symm
     ·rename_i e
      rw[HD.o.2 k hk,decide_eq_decide,hmem]
      exact⟨λh=>.inl h,λh=>h.resolve_right (λe2=>e e2.symm)⟩
   obtain⟨v6,jobs',rfl,ht6,hl6,hd6⟩:=h6'
   have H6:=Hm (And.intro (HK.o.trans hk6) (And.intro ht6 (And.intro hl6 hd6)))
   clear hk6 h6 ht6 hl6 hd6
   go_wp2_with fail
   go_roundw
   case rel=>exact⟨j+1,jobs',by omega,by go_num,H6.o.1,H6.o.2.1,H6.o.2.2.1,H6.o.2.2.2,λe=>by omega⟩
   case measure=>simp[intOf];omega
  ·obtain rfl:j=st.js.length:=by omega
   have HF:Hd (StartPost w ow x st h lt wr):=⟨by
    have h1:=H3.o.2.2.1
    have h2:=H3.o.2.2.2
    have h3:=HG2.o.size
    have h4:=HO1.o.1.size
    have h5:=HFm.o.size
    have h6:=HB5.o.1.size
    have h7:=H4.o.2.1.size
    have h8:=HK.o.size
    have hpb:=HO1.o.2.1
    have hbs:=HO1.o.2.2.1
    have hpbl:=hlt H4.o.2.2.1.head
    have htl:=H4.o.2.2.2.lt
    have hoK:Only wl wr (λb=>b=pt∨b=Bt):=⟨HK.o.os,HK.o.tape,HK.o.output,HK.o.size,λb hb hn=>HK.o.block b hb (λe=>hn (.inl e)) (λe=>hn (.inr e))⟩
    have ho4r:Only w4 wr (λb=>b=pt∨b=Bt):=Only.belLeft HB5.o.1 hoK
    have ho1r:Only w1 wr (λb=>b=x∨b=pt∨b=Bt):=(H4.o.2.1.weaken (λ_ _ e=>.inl e)).trans ho4r (λ_ _ e=>.inr e)
    have hall:Only w wr (λb=>b=h.pf∨b=x):=(HO1.o.1.weaken (λ_ _ e=>.inl e)).trans ho1r (by rintro b hb (e|e|e);exact .inr e;omega;omega)
    have hkvl:∀ g,kv.ownBlock=some g→w.heap.size≤g∧g < w4.heap.size:=λg hg=>⟨by have:=(H4.o.2.2.1.tab.krow.lt g hg).1;omega,(H4.o.2.2.1.tab.krow.lt g hg).2⟩
    have hvvl:∀ g,vv.ownBlock=some g→w.heap.size≤g∧g < w4.heap.size:=λg hg=>⟨by have:=(H4.o.2.2.1.tab.vrow.lt_own g hg).1;omega,(H4.o.2.2.1.tab.vrow.lt_own g hg).2⟩
    have t:Turn w wr ow (λb=>if b < w.heap.size then ow b else if b=pb∨some b=kv.ownBlock∨some b=vv.ownBlock then 3 else if b=pt∨b=Bt then 4 else 0) (λn=>n=2∨n=5) :=
     ⟨hall.weaken (by rintro b hb (e|e);exact .inl (by rw[e];exact HFm.o.of_);exact .inr (by rw[e];exact HFm.o.ox)),λb hb=>by simp only[hb,if_true],by omega⟩
    have hptb:∀ g,(kv.ownBlock=some g∨vv.ownBlock=some g∨g=pb)→g≠pt∧g≠Bt:=by
     rintro g (e|e|e)
     ·have:=(HO1.o.2.2.2.1.tab.krow.lt g e).2;omega
     ·have:=(HO1.o.2.2.2.1.tab.vrow.lt_own g e).2;omega
     ·have:=hlt HO1.o.2.2.2.1.head;omega
    have hA1l:0 < (laid (recsOf st.js)).length→∀ a,A1=some a→a.block < w1.heap.size:=λh0 a ha=>row_lt HO1.o.2.2.2.2.1.sure (by simpa using h0) a ha
    refine⟨_,{ h with A:=A1,c:=c1,bp:=.pointer (some ⟨pb,0,none⟩),tp:=.pointer (some ⟨pt,0,none⟩) },jobs,t,HFm.o.turn2 t (by rintro n (e|e)<;>omega) ?_ ⟨rfl,rfl,rfl⟩ ⟨rfl,rfl,rfl,rfl⟩ ?_ ?_ ?_ ?_,⟨⟨pb,base,ok,kv,vv,pt,Bt,rfl,rfl,?_,HT.o,?_,?_,?_,?_,?_,?_⟩,HD.o.1,?_⟩,rfl,rfl,λe=>HZz.o (by rw[e];rfl)⟩
    ·rw[ho4r.block x (hlt H4.o.1) (by omega)];exact H4.o.1
    ·refine HO1.o.2.2.2.2.1.only' ho1r ?_ ?_
     ·have h9:=HFm.o.ox
      have h10:=HFm.o.of_
      have h11:=hlt HFm.o.file.head
      rintro (e|e|e)
      ·rw[e] at h10;omega
      ·omega
      ·omega
     ·rintro h0 a ha (e|e|e)
      ·have:=(HO1.o.2.2.2.2.2.2 a ha).1;omega
      ·have:=hA1l h0 a ha;omega
      ·have:=hA1l h0 a ha;omega
    ·have h11:=hlt HFm.o.file.head
     show (if h.pf < w.heap.size then _ else _)=2
     rw[if_pos h11];exact HFm.o.of_
    ·intro h0 a ha
     have hq:=HO1.o.2.2.2.2.2.2 a ha
     have:=hA1l h0 a ha
     show (if a.block < w.heap.size then _ else _)=0
     rw[if_neg (by omega),if_neg (by rintro (e|e|e);exact hq.2.1 e;exact hq.2.2.2.1 e.symm;exact hq.2.2.2.2 e.symm),if_neg (by omega)]
    ·intro b hb
     show (if b < w.heap.size then _ else _)=0
     rw[if_neg (by omega),if_neg (by rintro (e|e|e);omega;have:=(hkvl _ e.symm).2;omega;have:=(hvvl _ e.symm).2;omega),if_neg (by omega)]
    ·exact H4.o.2.2.1.only ho4r (λe=>by have:=hptb pb (.inr (.inr rfl));rcases e with e|e<;>omega) (λg hg e=>by have:=hptb g (.inl hg);rcases e with e|e<;>omega) (λg hg e=>by have:=hptb g (.inr (.inl hg));rcases e with e|e<;>omega) (λb hb e=>by have:=HO1.o.2.2.2.1.tab.vrow.lt b hb;rcases e with e|e<;>omega)
    ·show (if pb < w.heap.size then _ else _)=3
     rw[if_neg (by omega),if_pos (.inl rfl)]
    ·intro g hg
     have:=(hkvl g hg).1
     show (if g < w.heap.size then _ else _)=3
     rw[if_neg (by omega),if_pos (.inr (.inl hg.symm))]
    ·intro g hg
     have:=(hvvl g hg).1
     show (if g < w.heap.size then _ else _)=3
     rw[if_neg (by omega),if_pos (.inr (.inr hg.symm))]
    ·intro b hb
     have hb1:=HO1.o.2.2.2.2.2.1 b hb
     have hb2:=HO1.o.2.2.2.1.tab.vrow.lt b hb
     have hb3:=HO1.o.2.2.2.1.tab.vrow.apart b hb
     have hb4:=HO1.o.2.2.2.1.okk b hb
     have hb5:=HO1.o.2.2.2.1.okp
     show (if b < w.heap.size then _ else _)=0
     rw[if_neg (by omega),if_neg (by rintro (e|e|e);exact hb5 (e ▸ hb);exact hb4 e.symm;exact hb3 e),if_neg (by omega)]
    ·show (if pt < w.heap.size then _ else _)=4
     have hx:=λg hg=>hptb g hg
     rw[if_neg (by omega),if_neg (by rintro (e|e|e);exact(hx pb (.inr (.inr rfl))).1 e.symm;exact(hx pt (.inl e.symm)).1 rfl;exact(hx pt (.inr (.inl e.symm))).1 rfl),if_pos (.inl rfl)]
    ·show (if Bt < w.heap.size then _ else _)=4
     have hx:=λg hg=>hptb g hg
     rw[if_neg (by omega),if_neg (by rintro (e|e|e);exact(hx pb (.inr (.inr rfl))).2 e.symm;exact(hx Bt (.inl e.symm)).2 rfl;exact(hx Bt (.inr (.inl e.symm))).2 rfl),if_pos (.inr rfl)]
    ·intro k hk
     have:=HD.o.2 k hk
     rw[List.take_length] at this
     exact this⟩
   go_wp2
   go_end0
   exact⟨rfl,HF.o⟩
theorem kFunc_open {w:World} {ok:Nat→Prop} {f:Func} {cs:List Value} (h:kFunc.K w ok f cs):(Lit.int .i64 f.params).wf=true∧(Lit.int .i64 f.vregs).wf=true∧∃ v,cs=[.int .i64 f.params,.int .i64 f.vregs,v]∧Kd.SK kBlock w ok f.blocks v:=by
 obtain⟨_,_,rfl,⟨rfl,h1⟩,_,_,rfl,⟨rfl,h2⟩,v,rfl,h3⟩:=h
 exact⟨h1,h2,v,rfl,h3⟩
theorem kFunc_mk {w:World} {ok:Nat→Prop} {f:Func} (h1:(Lit.int .i64 f.params).wf=true) (h2:(Lit.int .i64 f.vregs).wf=true) {v:Value} (h:Kd.SK kBlock w ok f.blocks v):kFunc.K w ok f [.int .i64 f.params,.int .i64 f.vregs,v] :=
 ⟨[_],_,rfl,⟨rfl,h1⟩,[_],_,rfl,⟨rfl,h2⟩,v,rfl,h⟩
theorem sk_func {w:World} {ok:Nat→Prop} {l:List Func} {v:Value} (h:Kd.SK kFunc w ok l v) (j:Nat) (hj:j < l.length):∃ b off c v1,v=.slice (some ⟨b,off,none⟩) l.length c∧ok b∧Kd.SK kBlock w ok l[j].blocks v1∧(Lit.int .i64 l[j].params).wf=true∧(Lit.int .i64 l[j].vregs).wf=true ∧
  w.cell? ⟨b,off+j*3,none⟩=some (.int .i64 l[j].params)∧w.cell? ⟨b,off+j*3+1,none⟩=some (.int .i64 l[j].vregs)∧w.cell? ⟨b,off+j*3+2,none⟩=some v1:=by
 obtain⟨b,off,c,cs,rfl,_,ho,_,hk,hc⟩:=h.at_ j hj
 obtain⟨f1,f2,v1,rfl,hs⟩:=kFunc_open hk
 have h0:=hc 0 (by decide)
 have h1:=hc 1 (by decide)
 have h2:=hc 2 (by decide)
 exact⟨b,off,c,v1,rfl,ho,hs,f1,f2,h0,h1,h2⟩
structure CfOk (st:FSt):Prop where
 r3:3≤st.regs
 r8:st.regs≤8
 w1:1≤st.workers
 w3:st.workers≤3
 room:st.room≤4194304
 b1:1≤st.box
 b2:st.box≤256
 fs:∀ f∈st.fs,FuncOk f
def confV (st:FSt):Value:=.agg #[.int .i64 st.regs,.int .i64 st.workers,.int .u64 st.t.lease,.int .u64 st.t.wait,.int .u64 st.t.most,.int .i64 st.room,.int .i64 st.box]
theorem fcheck_ok (st:FSt) (hc:CfOk st) (hs:StOk st) (ok:Nat→Prop) (lv:Value) (w:World) (hl:Kd.SK kFunc w ok st.fs lv) :
  Calls Tryz.prog 48 #[confV st,lv] w λe w'=>e=.returned (.int .i64 0)∧Bel w w':=by
 have HN:=Hm (λ(wx:World)=>Ls.new_ok st.fs.length st.t 0 wx hs.fs1 hs.fs16 hs.tl hs.tw hs.tm hs.twm (by omega))
 have HL:=Hm hl
 have HC:=Hm hc.fs
 obtain⟨A,c,rfl,-⟩:=sk_form hl
 have r1:¬(st.regs:Int) < 3:=by have:=hc.r3;omega
 have r2:¬8 < (st.regs:Int):=by have:=hc.r8;omega
 have r3:¬(st.workers:Int) < 1:=by have:=hc.w1;omega
 have r4:¬3 < (st.workers:Int):=by have:=hc.w3;omega
 have r5:¬4194304 < (st.room:Int):=by have:=hc.room;omega
 have r6:¬(st.box:Int) < 1:=by have:=hc.b1;omega
 have r7:¬256 < (st.box:Int):=by have:=hc.b2;omega
 have hn16:=hs.fs16
 clear hl hc hs
 unfold confV
 go_enter Tryz.func48,Tryz.ntmps48
 go_wp2_with fail
 refine(HN.o _).mono ?_
 rintro e w1 ⟨pt,Bt,rfl,-,hb1',-,-⟩
 have HB1:=Hm (bUA hb1')
 clear hb1' r1 r2 r3 r4 r5 r6 r7
 go_wp2_with fail
 go_loopw [60] (λi wr=>∃ j:Nat,j≤st.fs.length∧i=.int .i64 j∧Bel w wr) (λi _=>st.fs.length-(intOf i).toNat)
 case atStart=>exact⟨0,Nat.zero_le _,rfl,HB1.o⟩
 case round =>
  obtain⟨j,hj,rfl,hb⟩:=hrel
  have HB:=Hm hb
  clear hb
  by_cases hltj:j < st.fs.length
  ·obtain⟨b,off,c',v1,e,-,hsk,-,-,z0,z1,z2⟩:=sk_func (sk_bel HL.o HB.o) j hltj
   simp only[Value.slice.injEq] at e
   obtain⟨rfl,-,rfl⟩:=e
   have HCk:=Hm (λ(wx:World) (hb:Bel wr wx)=>check_ok st.fs[j] (HC.o _ (List.getElem_mem hltj)) ok v1 wx (sk_bel hsk hb))
   obtain⟨A1,c1,rfl,-⟩:=sk_form hsk
   have hrf:=run_fault
   clear hsk
   generalize st.fs[j]=y at *
   go_wp2_with fail
   refine(HCk.o _ (bA (bR wr) _)).mono ?_
   rintro e w2 ⟨rfl,hb2⟩
   have HB2:=Hm (bT HB.o (bUA hb2))
   clear hb2 z0 z1 z2
   go_wp2_with fail
   go_roundw
   case rel=>exact⟨j+1,by omega,by go_num,HB2.o⟩
   case measure=>simp[intOf];omega
  ·go_wp2
   go_ret
   exact⟨rfl,HB.o⟩
theorem all_replace {α:Type} {k:Kd α} {w:World} {ok:Nat→Prop}:∀ {xs:List α} {vs:List Value} (h:k.All w ok xs vs) (i:Nat) (hi:i < xs.length) {cs:List Value} (hc:k.K w ok xs[i] cs),k.All w ok xs (vs.take (i*k.size)++cs++vs.drop (i*k.size+k.size))
 |[],vs,h,i,hi,_,_=>absurd hi (by simp)
 |x :: xs,vs,⟨c0,rest,e,h1,h2⟩,0,hi,cs,hc=>by
  refine⟨cs,rest,?_,hc,h2⟩
  have hl:=k.len h1
  rw[e,Nat.zero_mul,List.take_zero,List.nil_append,Nat.zero_add,List.drop_left' hl]
 |x :: xs,vs,⟨c0,rest,e,h1,h2⟩,i+1,hi,cs,hc=>by
  have ih:=all_replace h2 i (by simpa using hi) (cs:=cs) hc
  refine⟨c0,_,?_,h1,ih⟩
  have hl:=k.len h1
  rw[e,Nat.add_mul,Nat.one_mul,List.take_append,List.take_of_length_le (by omega),show i*k.size+k.size-c0.length=i*k.size from by omega,List.drop_append,List.drop_of_length_le (by omega),show i*k.size+k.size+k.size-c0.length=i*k.size+k.size from by omega,List.nil_append,List.append_assoc,List.append_assoc,List.append_assoc]
theorem set5 (vs:List Value) (m:Nat) (a b c d e:Value) (h:m+5≤vs.length):((((vs.set m a).set (m+1) b).set (m+2) c).set (m+3) d).set (m+4) e=vs.take m++[a,b,c,d,e]++vs.drop (m+5):=by
 refine List.ext_getElem? λk=>?_
 simp only[List.getElem?_set,List.length_set]
 rcases Nat.lt_or_ge k m with h1|h1
 ·rw[List.append_assoc,List.getElem?_append_left (by rw[List.length_take];omega),List.getElem?_take]
  simp[show ¬m+4=k by omega,show ¬m+3=k by omega,show ¬m+2=k by omega,show ¬m+1=k by omega,show ¬m=k by omega,h1]
 ·rcases Nat.lt_or_ge k (m+5) with h2|h2
  ·rw[List.append_assoc,List.getElem?_append_right (by rw[List.length_take];omega),List.length_take,Nat.min_eq_left (by omega),List.getElem?_append_left (by simp;omega)]
   obtain⟨j,rfl⟩:∃ j,k=m+j:=⟨k-m,by omega⟩
   rw[Nat.add_sub_cancel_left]
   have hj:j < 5:=by omega
   match j,hj with
   |0,_=>simp;omega
   |1,_=>simp;omega
   |2,_=>simp;omega
   |3,_=>simp;omega
   |4,_=>simp;omega
  ·rw[List.getElem?_append_right (by simp;omega),List.getElem?_drop]
   simp[show ¬m+4=k by omega,show ¬m+3=k by omega,show ¬m+2=k by omega,show ¬m+1=k by omega,show ¬m=k by omega,Nat.min_eq_left (show m≤vs.length by omega)]
   congr 1
   omega
theorem krow_set5 {α:Type} {k:Kd α} (hk5:k.size=5) {w:World} {base:Nat} {e:TypeId} {ok:Nat→Prop} {xs:List α} {g c:Nat} (h:KRow k w base e ok xs (.slice (some ⟨g,0,none⟩) xs.length c)) (i:Nat) (hi:i < xs.length) {a0 a1 a2 a3 a4:Value} (hc:k.K w ok xs[i] [a0,a1,a2,a3,a4]) :
  KRow k (((((w.setCell ⟨g,i*5,none⟩ a0).setCell ⟨g,i*5+1,none⟩ a1).setCell ⟨g,i*5+2,none⟩ a2).setCell ⟨g,i*5+3,none⟩ a3).setCell ⟨g,i*5+4,none⟩ a4) base e ok xs (.slice (some ⟨g,0,none⟩) xs.length c):=by
 obtain⟨⟨vs,h1,h2⟩,h3,h4⟩:=h
 have hg:w.grownBy (((((w.setCell ⟨g,i*5,none⟩ a0).setCell ⟨g,i*5+1,none⟩ a1).setCell ⟨g,i*5+2,none⟩ a2).setCell ⟨g,i*5+3,none⟩ a3).setCell ⟨g,i*5+4,none⟩ a4) (some g) :=
  grownBy_trans (grownBy_trans (grownBy_trans (grownBy_trans (grownBy_cell _ _ _ _) (grownBy_cell _ _ _ _)) (grownBy_cell _ _ _ _)) (grownBy_cell _ _ _ _)) (grownBy_cell _ _ _ _)
 have ho:=(((((h1.stored (i*5) a0).1.stored (i*5+1) a1).1.stored (i*5+2) a2).1.stored (i*5+3) a3).1.stored (i*5+4) a4).1
 have hl:=h2.len
 rw[hk5] at hl
 rw[set5 vs (i*5) a0 a1 a2 a3 a4 (by omega)] at ho
 have ha:=all_replace h2 i hi hc
 rw[hk5] at ha
 refine⟨⟨_,ho,ha.stay (Stays.grown hg (λb hb e=>h3 b hb (by rw[e];rfl)))⟩,h3,λb hb=>Nat.lt_of_lt_of_le (h4 b hb) hg.size⟩
end Go.Proofs.YtjkgligohegaeaaGreatDoor
