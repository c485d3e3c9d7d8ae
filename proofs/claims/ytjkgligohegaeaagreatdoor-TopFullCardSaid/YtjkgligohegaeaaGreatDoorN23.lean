/- Lemmas of the row. -/
import Derived.Test.YtjkgligohegaeaaGreatDoorN22
set_option linter.all false
set_option maxRecDepth 20000
set_option maxHeartbeats 12800000
namespace Go.Proofs.YtjkgligohegaeaaGreatDoor
open Go.RowKit
section
variable {w:World} {ops:Array Oper} {rest:List Oper} {o:Oper} {a:Act} {Q:Exit→Act→World→Prop} {α:Type} {k:Kd α}
theorem appKs {e by_:Nat} {z:Value} (hI:EI e k.size by_ z) {t:TypeId} (ht:Tryz.prog.underlying t=some (.slice e)) (hgd:o.guard=none) (s x:Operand) (ho:o.op=.call { callee:=.builtin .append,args:=#[s,x],argTypes:=#[t,t] })
  {base:Nat} {v:Value} {ok:Nat→Prop} {xs:List α} (hs:a.eval s=v) (h:KRow k w base e ok xs v) (hbase:base≤w.heap.size)
  {q c:Nat} {ys:List α} {cs:List Value} (hx:a.eval x=.slice (some ⟨q,0,none⟩) ys.length c) (hnews:Row w (some ⟨q,0,none⟩) cs) (hy:k.All w ok ys cs) (hb:(xs.length+ys.length)*by_≤140737488355328)
  (hnext:∀ v' w',KRow k w' base e ok (xs++ys) v'→w.grownBy w' v.ownBlock→(v'.ownBlock=v.ownBlock∨v'.ownBlock=some w.heap.size)→wpList Tryz.prog ops Q rest (a.put o.dst v') w'):wpList Tryz.prog ops Q (o :: rest) a w:=by
 obtain⟨⟨vs,h3,h4⟩,h5,h6⟩:=h
 refine appW hI ht hgd s x ho hs h3 hbase hx hnews hy.len hy.one hb λv' w' ho' hg hw=>?_
 have hst:Stays w w' ok ok:=Stays.grown hg h5
 refine hnext v' w' ⟨⟨vs++cs,by simpa using ho',(h4.append hy).stay hst⟩,λb hb e=>?_,λb hb=>Nat.lt_of_lt_of_le (h6 b hb) hg.size⟩ hg hw
 rcases hw with hw|hw
 ·exact h5 b hb (by rw[←hw];exact e)
 ·rw[hw] at e
  have:=h6 b hb
  simp at e
  omega
end
theorem row_new' (w:World) (vs:List Value) (t:TypeId) (q:Nat) (hq:q=w.heap.size):Row (w.alloc (.cells vs.toArray t (0,0))) (some ⟨q,0,none⟩) vs:=by subst hq;exact row_new w vs t (0,0)
theorem all_pair {w w':World} {ok ok':Nat→Prop}:∀ {l:List PairV} {vs:List Value},kPair.All w ok l vs→kPair.All w' ok' l vs
 |[],vs,h=>h
 |p :: r,vs,⟨cs,rest,e,h1,h2⟩=>⟨cs,rest,e,by obtain⟨a,b,rfl⟩:=kPair_open h1;exact kPair_mk a b,all_pair h2⟩
theorem NI.push2 {X X':World} {x:Nat} {okI okI':Nat→Prop} {ys ys':List Ins} {vI vI':Value} {es:List Value} (h:NI X x okI ys vI es) (hg:X.grownBy X' vI.ownBlock) (hi:KRow kIns X' (x+1) 91 okI' ys' vI') (ho:∀ b,okI' b→x < b):NI (X'.setCell ⟨x,0,none⟩ vI') x okI' ys' vI' es:=h.push hg hi ho
structure NO (w X:World) (p q c:Nat) (l:List UInt8) (pr:Int) (V regs:Nat) (vh:Value) (ok:Nat→Prop) (xs:List Block) (v:Value) (okc:Nat→Prop) (cs:List (List PairV)) (vc:Value) (m:Nat):Prop where
 bel:Bel w X
 rd:NxAt X p l
 wp:w.heap.size≤p
 pq:p < q
 qc:q < c
 cm:c < m
 mx:m≤X.heap.size
 res:X.heap[q]?=some (.cells ([.int .i64 0,.int .i64 0,.int .i64 0,.slice none 0 0]:List Value).toArray 59 (0,0))
 cd:X.heap[c]?=some (.cells ([.int .i64 pr,.int .i64 regs,.int .i64 V,v]:List Value).toArray 59 (0,0))
 hom:KRow kPair X (c+1) 119 (λ_=>False) (homeL regs V) vh
 o:KRow kBlock X (c+1) 97 ok xs v
 cer:KRow kPairs X (c+1) 117 okc cs vc
 ok_:∀ b,ok b→c < b∧b < m∧vc.ownBlock≠some b
 okc_:∀ b,okc b→c < b∧b < m∧v.ownBlock≠some b
 ah:∀ b,vh.ownBlock=some b→b < m∧v.ownBlock≠some b∧vc.ownBlock≠some b
 ac:∀ b,vc.ownBlock=some b→b < m∧v.ownBlock≠some b
 av:∀ b,v.ownBlock=some b→b < m
section
variable {w X X':World} {p q c m:Nat} {l l':List UInt8} {pr:Int} {V regs:Nat} {vh v vc:Value} {ok okc:Nat→Prop} {xs:List Block} {cs:List (List PairV)}
theorem NO.only {F:Nat→Prop} (h:NO w X p q c l pr V regs vh ok xs v okc cs vc m) (hs:Only X X' F) (hF:∀ b,F b→b=p∨m≤b) (hm:NxAt X' p l'):NO w X' p q c l' pr V regs vh ok xs v okc cs vc m:=by
 have h1:=h.wp;have h2:=h.pq;have h3:=h.qc;have h4:=h.cm;have h5:=h.mx
 have hw:=h.bel.size
 have hz:=hs.size
 exact { h with
  bel:=bO h.bel hs (λb hb=>by rcases hF b hb with e|e<;>omega)
  rd:=hm
  mx:=by omega
  res:=hs.heap h.res (λe=>by rcases hF q e with e|e<;>omega)
  cd:=hs.heap h.cd (λe=>by rcases hF c e with e|e<;>omega)
  hom:=h.hom.only hs (λb hb e=>by have h9:=(h.ah b hb).1;have h8:=(h.hom.lt_own b hb).1;rcases hF b e with e|e<;>omega) (λb hb=>hb.elim)
  o:=h.o.only hs (λb hb e=>by have h9:=h.av b hb;have h8:=(h.o.lt_own b hb).1;rcases hF b e with e|e<;>omega) (λb hb e=>by have h9:=h.ok_ b hb;rcases hF b e with e|e<;>omega)
  cer:=h.cer.only hs (λb hb e=>by have h9:=(h.ac b hb).1;have h8:=(h.cer.lt_own b hb).1;rcases hF b e with e|e<;>omega) (λb hb e=>by have h9:=h.okc_ b hb;rcases hF b e with e|e<;>omega) }
theorem NO.above {F:Nat→Prop} (h:NO w X p q c l pr V regs vh ok xs v okc cs vc m) (hs:Only X X' F) (hF:∀ b,F b→m≤b):NO w X' p q c l pr V regs vh ok xs v okc cs vc m:=by
 have h2:=h.pq;have h3:=h.qc;have h4:=h.cm
 exact h.only hs (λb hb=>.inr (hF b hb)) (h.rd.only hs (λb hb e=>by have:=hF b e;omega))
theorem NO.belN (h:NO w X p q c l pr V regs vh ok xs v okc cs vc m) (hb:Bel X X'):NO w X' p q c l pr V regs vh ok xs v okc cs vc m:=h.above (F:=λ_=>False) (Only.bel hb) (λ_ e=>e.elim)
theorem NO.next (h:NO w X p q c l pr V regs vh ok xs v okc cs vc m) (hs:NxStep X X' p l'):NO w X' p q c l' pr V regs vh ok xs v okc cs vc m:=h.only hs.only (λb hb=>.inl hb) hs.rd
theorem NO.up (h:NO w X p q c l pr V regs vh ok xs v okc cs vc m):NO w X p q c l pr V regs vh ok xs v okc cs vc X.heap.size:=by
 have h5:=h.mx
 exact { h with
  cm:=Nat.lt_of_lt_of_le h.cm h5
  mx:=Nat.le_refl _
  ok_:=λb hb=>⟨(h.ok_ b hb).1,Nat.lt_of_lt_of_le (h.ok_ b hb).2.1 h5,(h.ok_ b hb).2.2⟩
  okc_:=λb hb=>⟨(h.okc_ b hb).1,Nat.lt_of_lt_of_le (h.okc_ b hb).2.1 h5,(h.okc_ b hb).2.2⟩
  ah:=λb hb=>⟨Nat.lt_of_lt_of_le (h.ah b hb).1 h5,(h.ah b hb).2⟩
  ac:=λb hb=>⟨Nat.lt_of_lt_of_le (h.ac b hb).1 h5,(h.ac b hb).2⟩
  av:=λb hb=>Nat.lt_of_lt_of_le (h.av b hb) h5 }
end
structure NS (X:World) (m x ii ui:Nat) (bc:List Value) (okI:Nat→Prop) (ys:List Ins) (vI:Value) (es:List Value) (ic uc:List Value):Prop where
 ni:NI X x okI ys vI es
 mb:X.heap[m]?=some (.cells bc.toArray 97 (0,0))
 mi:X.heap[ii]?=some (.cells ic.toArray 91 (0,0))
 mu:X.heap[ui]?=some (.cells uc.toArray 91 (0,0))
 mx:m < x
 xi:x < ii
 iu:ii < ui
 ow:∀ b,vI.ownBlock=some b→b≠ii∧b≠ui
 okI_:∀ b,okI b→b≠ii∧b≠ui
section
variable {X X':World} {m x ii ui:Nat} {bc ic uc es:List Value} {okI:Nat→Prop} {ys:List Ins} {vI:Value}
theorem NS.only {F:Nat→Prop} (h:NS X m x ii ui bc okI ys vI es ic uc) (hs:Only X X' F) (hF:∀ b,F b→b < m):NS X' m x ii ui bc okI ys vI es ic uc:=by
 have h1:=h.mx;have h2:=h.xi;have h3:=h.iu
 exact { h with
  ni:=h.ni.only hs (λe=>by have:=hF x e;omega) (λb hb e=>by have:=hF b e;have:=(h.ni.own hb).1;omega) (λb hb e=>by have:=hF b e;have:=h.ni.ok b hb;omega)
  mb:=hs.heap h.mb (λe=>by have:=hF m e;omega)
  mi:=hs.heap h.mi (λe=>by have:=hF ii e;omega)
  mu:=hs.heap h.mu (λe=>by have:=hF ui e;omega) }
theorem NS.onlyG {F:Nat→Prop} (h:NS X m x ii ui bc okI ys vI es ic uc) (hs:Only X X' F) (hF:∀ b,F b→ui < b∧vI.ownBlock≠some b∧¬okI b):NS X' m x ii ui bc okI ys vI es ic uc:=by
 have h1:=h.mx;have h2:=h.xi;have h3:=h.iu
 exact { h with
  ni:=h.ni.only hs (λe=>by have:=(hF x e).1;omega) (λb hb e=>(hF b e).2.1 hb) (λb hb e=>(hF b e).2.2 hb)
  mb:=hs.heap h.mb (λe=>by have:=(hF m e).1;omega)
  mi:=hs.heap h.mi (λe=>by have:=(hF ii e).1;omega)
  mu:=hs.heap h.mu (λe=>by have:=(hF ui e).1;omega) }
theorem NS.belN (h:NS X m x ii ui bc okI ys vI es ic uc) (hb:Bel X X'):NS X' m x ii ui bc okI ys vI es ic uc:=h.only (F:=λ_=>False) (Only.bel hb) (λ_ e=>e.elim)
theorem NS.setU (h:NS X m x ii ui bc okI ys vI es ic uc) (k:Nat) (a:Value):NS (X.setCell ⟨ui,k,none⟩ a) m x ii ui bc okI ys vI es ic (uc.set k a):=by
 have h1:=h.mx;have h2:=h.xi;have h3:=h.iu
 have hs:Only X (X.setCell ⟨ui,k,none⟩ a) (λb=>b=ui):=oC (F:=λb=>b=ui) (Only.refl X _) rfl _ _
 exact { h with
  ni:=h.ni.only hs (by omega) (λb hb e=>(h.ow b hb).2 e) (λb hb e=>(h.okI_ b hb).2 e)
  mb:=hs.heap h.mb (by omega)
  mi:=hs.heap h.mi (by omega)
  mu:=set_at h.mu k a }
theorem NS.fill {v:Int} {r:Nat} (h:NS X m x ii ui bc okI ys vI es ic uc) (hf:NFill X X' x okI ys vI es v r):∃ vI',NS X' m x ii ui bc okI (ys++[fillI v r]) vI' es ic uc∧Only X X' (λb=>b=x∨vI.ownBlock=some b)∧(vI'.ownBlock=vI.ownBlock∨∃ g,vI'.ownBlock=some g∧X.heap.size≤g):=by
 obtain⟨vI',hn,hs,hw⟩:=hf
 have h1:=h.mx;have h2:=h.xi;have h3:=h.iu
 have hiz:=hlt h.mi;have huz:=hlt h.mu
 refine⟨vI',{ h with
  ni:=hn
  mb:=hs.heap h.mb (by rintro (e|e);omega;have:=(h.ni.own e).1;omega)
  mi:=hs.heap h.mi (by rintro (e|e);omega;exact(h.ow _ e).1 rfl)
  mu:=hs.heap h.mu (by rintro (e|e);omega;exact(h.ow _ e).2 rfl)
  ow:=λb hb=>?_ },hs,hw⟩
 rcases hw with e|⟨g,e,hg⟩
 ·exact h.ow b (e ▸ hb)
 ·rw[e] at hb
  cases hb
  omega
theorem NS.fillAbove (h:NS X m x ii ui bc okI ys vI es ic uc):∀ b,(b=x∨vI.ownBlock=some b)→m≤b:=by
 rintro b (e|e)
 ·have:=h.mx;omega
 ·have:=(h.ni.own e).1;have:=h.mx;omega
end
theorem NI.put {X:World} {x:Nat} {okI:Nat→Prop} {ys:List Ins} {vI:Value} {es:List Value} (h:NI X x okI ys vI es) (k:Nat) (a:Value):NI (X.setCell ⟨x,k+1,none⟩ a) x okI ys vI (es.set k a):=by
 have hs:Only X (X.setCell ⟨x,k+1,none⟩ a) (λb=>b=x):=oC (F:=λb=>b=x) (Only.refl X _) rfl _ _
 exact⟨by have:=set_at h.var (k+1) a;simpa using this,h.inn.only hs (λb hb e=>by have:=(h.own hb).1;omega) (λb hb e=>by have:=h.ok b hb;omega),h.ok⟩
theorem NO.push {w X Xa X7 X8 X9:World} {p q c m:Nat} {l:List UInt8} {pr:Int} {V regs:Nat} {vh v vc v7 v9:Value} {ok okc ok1 okc1:Nat→Prop} {xs xs':List Block} {cs cs':List (List PairV)} (h:NO w X p q c l pr V regs vh ok xs v okc cs vc m)
  (B0:Bel X Xa) (hg7:Xa.grownBy X7 v.ownBlock) (hk7:KRow kBlock X7 (c+1) 97 ok1 xs' v7) (hw7:v7.ownBlock=v.ownBlock∨v7.ownBlock=some Xa.heap.size) (h1:∀ b,ok1 b→ok b∨(m≤b∧b < Xa.heap.size))
  (B8:Bel X7 X8) (hg9:X8.grownBy X9 vc.ownBlock) (hk9:KRow kPairs X9 (c+1) 117 okc1 cs' v9) (hw9:v9.ownBlock=vc.ownBlock∨v9.ownBlock=some X8.heap.size) (h2:∀ b,okc1 b→okc b∨(X7.heap.size≤b∧b < X8.heap.size)) :
  NO w (X9.setCell ⟨c,3,none⟩ v7) p q c l pr V regs vh ok1 xs' v7 okc1 cs' v9 X9.heap.size:=by
 have a1:=h.wp;have a2:=h.pq;have a3:=h.qc;have a4:=h.cm;have a5:=h.mx
 have z0:=B0.size;have z7:=hg7.size;have z8:=B8.size;have z9:=hg9.size
 have hwz:=h.bel.size
 have hvb:∀ b,v.ownBlock=some b→c+1≤b∧b < m:=λb hb=>⟨(h.o.lt_own b hb).1,h.av b hb⟩
 have hcb:∀ b,vc.ownBlock=some b→c+1≤b∧b < m:=λb hb=>⟨(h.cer.lt_own b hb).1,(h.ac b hb).1⟩
 have hhb:∀ b,vh.ownBlock=some b→c+1≤b∧b < m:=λb hb=>⟨(h.hom.lt_own b hb).1,(h.ah b hb).1⟩
 have o9:Only X9 (X9.setCell ⟨c,3,none⟩ v7) (λb=>b=c):=oC (F:=λb=>b=c) (Only.refl X9 _) rfl 3 v7
 have o8:Only X8 X9 (λb=>vc.ownBlock=some b):=Only.grown hg9 (λg e=>e)
 have o7:Only Xa X7 (λb=>v.ownBlock=some b):=Only.grown hg7 (λg e=>e)
 have oX8:Only X X8 (λb=>v.ownBlock=some b):=oB (Only.belLeft B0 o7) B8
 have oX9:Only X X9 (λb=>v.ownBlock=some b∨vc.ownBlock=some b):=(oX8.weaken (λb _ e=>Or.inl e)).trans (o8.weaken (λb _ e=>Or.inr e)) (λb _ e=>e)
 have oX:Only X (X9.setCell ⟨c,3,none⟩ v7) (λb=>(v.ownBlock=some b∨vc.ownBlock=some b)∨b=c):=(oX9.weaken (λb _ e=>Or.inl e)).trans (o9.weaken (λb _ e=>Or.inr e)) (λb _ e=>e)
 have hF:∀ b,((v.ownBlock=some b∨vc.ownBlock=some b)∨b=c)→c≤b:=by
  rintro b ((e|e)|e)
  ·have:=hvb b e;omega
  ·have:=hcb b e;omega
  ·omega
 have s10:(X9.setCell ⟨c,3,none⟩ v7).heap.size=X9.heap.size:=by simp
 exact {
  bel:=bO h.bel oX (λb e=>by have:=hF b e;omega)
  rd:=h.rd.only oX (λb hb e=>by have:=hF b e;omega)
  wp:=a1
  pq:=a2
  qc:=a3
  cm:=by omega
  mx:=by omega
  res:=oX.heap h.res (λe=>by have:=hF q e;omega)
  cd:=by
   have h9:=oX9.heap h.cd (by rintro (e|e);have:=hvb c e;omega;have:=hcb c e;omega)
   have:=set_at h9 3 v7
   simpa using this
  hom:=h.hom.only oX (λb hb e=>by
   rcases e with (e|e)|e
   ·exact(h.ah b hb).2.1 e
   ·exact(h.ah b hb).2.2 e
   ·have:=hhb b hb;omega) (λb hb=>hb.elim)
  o:=by
   refine((hk7.bel B8).only o8 (λb hb e=>?_) (λb hb e=>?_)).only o9 (λb hb e=>by have:=(hk7.lt_own b hb).1;omega) (λb hb e=>?_)
   ·rcases hw7 with hw|hw
    ·exact(h.ac b e).2 (hw ▸ hb)
    ·rw[hw] at hb;cases hb;have:=hcb _ e;omega
   ·rcases h1 b hb with hb|hb
    ·exact(h.ok_ b hb).2.2 e
    ·have:=hcb b e;omega
   ·rcases h1 b hb with hb|hb
    ·have:=(h.ok_ b hb).1;omega
    ·omega
  cer:=hk9.only o9 (λb hb e=>by have:=(hk9.lt_own b hb).1;omega) (λb hb e=>by
   rcases h2 b hb with hb|hb
   ·have:=(h.okc_ b hb).1;omega
   ·omega)
  ok_:=λb hb=>by
   have hl:=hk7.lt b hb
   have e:c < b:=by
    rcases h1 b hb with hb|hb
    ·exact(h.ok_ b hb).1
    ·omega
   refine⟨e,by omega,λe9=>?_⟩
   rcases hw9 with hw|hw
   ·rw[hw] at e9
    rcases h1 b hb with hb|hb
    ·exact(h.ok_ b hb).2.2 e9
    ·have:=hcb b e9;omega
   ·rw[hw] at e9;cases e9;omega
  okc_:=λb hb=>by
   rcases h2 b hb with hb|hb
   ·refine⟨(h.okc_ b hb).1,by have:=(h.okc_ b hb).2.1;omega,λe7=>?_⟩
    rcases hw7 with hw|hw
    ·exact(h.okc_ b hb).2.2 (hw ▸ e7)
    ·rw[hw] at e7;cases e7;have:=(h.okc_ _ hb).2.1;omega
   ·exact⟨by omega,by omega,λe7=>by have:=(hk7.lt_own b e7).2;omega⟩
  ah:=λb hb=>by
   have hm:=(h.ah b hb).1
   refine⟨by omega,λe7=>?_,λe9=>?_⟩
   ·rcases hw7 with hw|hw
    ·exact(h.ah b hb).2.1 (hw ▸ e7)
    ·rw[hw] at e7;cases e7;omega
   ·rcases hw9 with hw|hw
    ·exact(h.ah b hb).2.2 (hw ▸ e9)
    ·rw[hw] at e9;cases e9;omega
  ac:=λb hb=>by
   refine⟨(hk9.lt_own b hb).2,λe7=>?_⟩
   have h7:=(hk7.lt_own b e7).2
   rcases hw9 with hw|hw
   ·rw[hw] at hb
    rcases hw7 with hw|hw
    ·exact(h.ac b hb).2 (hw ▸ e7)
    ·rw[hw] at e7;cases e7;have:=hcb _ hb;omega
   ·rw[hw] at hb;cases hb;omega
  av:=λb hb=>by have:=(hk7.lt_own b hb).2;omega }
theorem NS.tail {w X X9:World} {p q c m x ii ui:Nat} {l:List UInt8} {pr:Int} {V regs:Nat} {vh v vc vI v9:Value} {ok okc okI okJ:Nat→Prop} {xs:List Block} {cs:List (List PairV)} {bc ic uc es:List Value} {ys ys':List Ins} {o:Obj} (h:NS X m x ii ui bc okI ys vI es ic uc) (ho:NO w X p q c l pr V regs vh ok xs v okc cs vc m)
  (hg:(X.alloc o).grownBy X9 vI.ownBlock) (hk:KRow kIns X9 (x+1) 91 okJ ys' v9) (hj:∀ b,okJ b→x < b):X9.heap[x]?=some (.cells (vI :: es).toArray 97 (0,0))∧NI (X9.setCell ⟨x,0,none⟩ v9) x okJ ys' v9 es∧NO w (X9.setCell ⟨x,0,none⟩ v9) p q c l pr V regs vh ok xs v okc cs vc m∧(X9.setCell ⟨x,0,none⟩ v9).heap[m]?=some (.cells bc.toArray 97 (0,0)):=by
 have hm:=h.mx
 have hO9:Only X X9 (λb=>vI.ownBlock=some b):=Only.belLeft (bA (bR X) o) (Only.grown (F:=λb=>vI.ownBlock=some b) hg (λg e=>e))
 have hO10:Only X9 (X9.setCell ⟨x,0,none⟩ v9) (λb=>b=x):=oC (F:=λb=>b=x) (Only.refl X9 _) rfl 0 v9
 exact⟨hO9.heap h.ni.var (λe=>by have:=(h.ni.own e).1;omega),(h.ni.bel (bA (bR X) o)).push2 hg hk hj,(ho.above hO9 (λb e=>by have:=(h.ni.own e).1;omega)).above hO10 (λb e=>by omega),hO10.heap (hO9.heap h.mb (λe=>by have:=(h.ni.own e).1;omega)) (by omega)⟩
def NaivePost (w:World) (f:Func) (regs:Nat) (l:List UInt8) (e:Ending) (w':World):Prop :=
 Bel w w'∧∃ v u,e=.returned (.tuple #[.agg #[.int .i64 f.params,.int .i64 regs,.int .i64 f.vregs,v],u])∧Kd.SK kBlock w' (λb=>w.heap.size≤b) (nvBlocks regs f.blocks l) v∧Kd.SK kPairs w' (λb=>w.heap.size≤b) (nvCert f regs) u
theorem NO.post {w X X':World} {p q c m:Nat} {l l':List UInt8} {f:Func} {pr:Int} {V regs:Nat} {vh v vc:Value} {ok okc:Nat→Prop} {fb:List Block} (he:f.params=pr∧f.vregs=V∧f.blocks=fb) (h:NO w X p q c l' pr V regs vh ok (nvBlocks regs fb l) v okc (fb.map λ_=>homeL regs V) vc m) (hs:Only X X' (λb=>b=q)) :
  NaivePost w f regs l (.returned (.tuple #[.agg #[.int .i64 pr,.int .i64 regs,.int .i64 V,v],vc])) X':=by
 have h1:=h.wp;have h2:=h.pq;have h3:=h.qc;have h4:=h.cm;have h5:=h.mx
 obtain⟨e1,e2,e3⟩:=he
 refine⟨bO h.bel hs (λb e=>by omega),v,vc,by rw[e1,e2],?_,?_⟩
 ·rw[e3]
  refine(h.o.only hs (λb hb e=>by have:=(h.o.lt_own b hb).1;omega) (λb hb e=>by have:=(h.ok_ b hb).1;omega)).sk.stay (Stays.weaken ?_)
  rintro b (hb|hb)
  ·have:=(h.ok_ b hb).1;omega
  ·have:=(h.o.lt_own b hb.symm).1;omega
 ·have e4:nvCert f regs=fb.map λ_=>homeL regs V:=by unfold nvCert;rw[e3,e2];rfl
  rw[e4]
  refine(h.cer.only hs (λb hb e=>by have:=(h.cer.lt_own b hb).1;omega) (λb hb e=>by have:=(h.okc_ b hb).1;omega)).sk.stay (Stays.weaken ?_)
  rintro b (hb|hb)
  ·have:=(h.okc_ b hb).1;omega
  ·have:=(h.cer.lt_own b hb.symm).1;omega
def nvNil:List Value:=[.int .u8 0,.int .i64 0,.int .i64 0,.int .i64 0]
def OutN (w:World) (p q c:Nat) (l:List UInt8) (pr:Int) (V regs:Nat) (fb:List Block) (vh vc i:Value) (wr:World):Prop :=
 ∃ (j:Nat) (ok:Nat→Prop) (v:Value) (okc:Nat→Prop),j≤fb.length∧i=.int .i64 j∧NO w wr p q c (nvLeft (fb.take j) l) pr V regs vh ok (nvBlocks regs (fb.take j) l) v okc ((fb.take j).map λ_=>homeL regs V) vc wr.heap.size
def InN (w:World) (p q c:Nat) (L:List UInt8) (pr:Int) (V regs:Nat) (vh:Value) (ok:Nat→Prop) (xs:List Block) (v:Value) (okc:Nat→Prop) (cs:List (List PairV)) (vc:Value) (m x:Nat) (bc:List Value) (yi:List Ins) (i:Value) (wr:World):Prop :=
 ∃ (k:Nat) (okI:Nat→Prop) (vI:Value),k≤yi.length∧i=.int .i64 k∧NO w wr p q c (L.drop k) pr V regs vh ok xs v okc cs vc m∧NI wr x okI (nvL regs (yi.take k) L) vI nvNil∧wr.heap[m]?=some (.cells bc.toArray 97 (0,0))
def ArgN (w:World) (p q c:Nat) (L:List UInt8) (pr:Int) (V regs:Nat) (vh:Value) (ok:Nat→Prop) (xs:List Block) (v:Value) (okc:Nat→Prop) (cs:List (List PairV)) (vc:Value) (m x ii ui:Nat) (bc:List Value) (okI:Nat→Prop) (ys:List Ins) (ic uc:List Value) (args:List Int) (i:Value) (wr:World):Prop :=
 ∃ (t:Nat) (vI va:Value),t≤args.length∧i=.int .i64 t∧NO w wr p q c L pr V regs vh ok xs v okc cs vc m∧NS wr m x ii ui bc okI (ys++fillsA 0 (args.take t)) vI nvNil ic (uc++[va])∧OwnI wr (ui+1) va (upTo t)∧∀ b,va.ownBlock=some b→vI.ownBlock≠some b∧¬okI b
theorem chd_lt (l:List UInt8):chd l < 256:=by
 cases l with
 |nil=>simp[chd]
 |cons a r=>exact a.toNat_lt
theorem NI.begin {X:World} {m x:Nat} {okI:Nat→Prop} {ys:List Ins} {vI:Value} {es bc:List Value} (h:NI X x okI ys vI es) (hb:X.heap[m]?=some (.cells bc.toArray 97 (0,0))) (hmx:m < x) (ic:List Value) :
  NS ((X.alloc (.cells ic.toArray 91)).alloc (.cells ic.toArray 91)) m x X.heap.size (X.heap.size+1) bc okI ys vI es ic ic:=by
 have hB:Bel X ((X.alloc (.cells ic.toArray 91)).alloc (.cells ic.toArray 91)):=bA (bA (bR _) _) _
 have hx:=h.lt
 exact {
  ni:=h.bel hB
  mb:=bHeap hB hb
  mi:=bHeap (bA (bR _) _) (hnew rfl)
  mu:=hnew (by simp)
  mx:=hmx
  xi:=hx
  iu:=by omega
  ow:=λb hb=>by have:=(h.own hb).2;omega
  okI_:=λb hb=>by have:=h.inn.lt b hb;omega }
end Go.Proofs.YtjkgligohegaeaaGreatDoor
