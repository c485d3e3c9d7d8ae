/- Lemmas of the row. -/
import Derived.Laws.BytesArg
import Derived.Laws.MakeOwn
import Derived.StillTail
import Derived.StillTailTactics
import Derived.Test.YtjkgligohegaeaaGreatDoorN09
set_option linter.all false
set_option maxRecDepth 20000
set_option maxHeartbeats 12800000
namespace Go.Proofs.YtjkgligohegaeaaGreatDoor.Ls
open Go.RowKit
structure Job where
 done:Bool
 lease:Nat
 deadline:Nat
 tries:Nat
 ready:Nat
structure Times where
 lease:Nat
 wait:Nat
 most:Nat
def Job.cells (j:Job):List Value:=[.bool j.done,.int .u64 j.lease,.int .u64 j.deadline,.int .i64 j.tries,.int .u64 j.ready]
def Job.zero:Job:=⟨false,0,0,0,0⟩
structure Job.Fits (j:Job):Prop where
 lease:j.lease < 18446744073709551616
 deadline:j.deadline < 18446744073709551616
 tries:j.tries≤64
 ready:j.ready < 18446744073709551616
def flat (js:List Job):List Value:=js.flatMap Job.cells
theorem flat_length (js:List Job):(flat js).length=js.length*5:=by
 induction js with
 |nil=>rfl
 |cons j js ih=>simp only[flat,List.flatMap_cons,List.length_append,List.length_cons] at ih⊢;rw[ih];simp[Job.cells];omega
theorem flat_get:∀ (js:List Job) (i:Nat) (hi:i < js.length) (k:Nat) (hk:k < 5),(flat js)[i*5+k]?=(js[i].cells)[k]?
 |[],i,hi,_,_=>absurd hi (by simp)
 |j :: js,0,hi,k,hk=>by
  simp only[flat,List.flatMap_cons,Nat.zero_mul,Nat.zero_add,List.getElem_cons_zero]
  rw[List.getElem?_append_left (by simpa [Job.cells] using hk)]
 |j :: js,i+1,hi,k,hk=>by
  have:=flat_get js i (by simpa using hi) k hk
  simp only[flat,List.flatMap_cons,List.getElem_cons_succ] at this⊢
  rw[List.getElem?_append_right (by simp[Job.cells];omega),←this]
  congr 1
  simp[Job.cells]
  omega
theorem flat_set (js:List Job) (i:Nat) (hi:i < js.length) (k:Nat) (hk:k < 5) (j':Job) (v:Value) (h:j'.cells=js[i].cells.set k v) :
  (flat js).toArray.setIfInBounds (i*5+k) v=(flat (js.set i j')).toArray:=by
 have hlen:=flat_length js
 rw[List.setIfInBounds_toArray]
 congr 1
 refine List.ext_getElem? λm=>?_
 rcases Nat.lt_or_ge m (js.length*5) with hm|hm
 ·have em:m=(m / 5)*5+m % 5:=by omega
  have hm5:m / 5 < js.length:=by omega
  have hk5:m % 5 < 5:=by omega
  rw[em]
  rw[flat_get (js.set i j') (m / 5) (by simpa using hm5) (m % 5) hk5]
  by_cases e:m / 5=i
  ·rw[List.getElem?_set]
   have hj:(js.set i j')[m / 5]'(by simpa using hm5)=j':=by simp[e]
   rw[hj,h,List.getElem?_set]
   by_cases e2:m % 5=k
   ·rw[if_pos (by rw[e,e2]),if_pos (by omega),if_pos e2.symm,if_pos (by simpa [Job.cells,e2] using hk5)]
   ·rw[if_neg (by omega),if_neg (λx=>e2 x.symm),e,flat_get js i hi _ hk5]
  ·rw[List.getElem?_set_ne (by omega),flat_get js (m / 5) hm5 _ hk5]
   congr 2
   rw[List.getElem_set_ne (λx=>e x.symm)]
 ·rw[List.getElem?_eq_none (by simp[hlen];omega),List.getElem?_eq_none (by rw[flat_length];simpa using hm)]
def head (B n:Nat) (t:Times) (last:Nat):Array Value:=#[.slice (some ⟨B,0,none⟩) n n,.int .u64 t.lease,.int .u64 t.wait,.int .u64 t.most,.int .u64 last]
structure TabAt (w:World) (p B:Nat) (js:List Job) (t:Times) (last:Nat):Prop where
 head:w.heap[p]?=some (.cells (head B js.length t last) 171 (0,0))
 body:w.heap[B]?=some (.cells (flat js).toArray 53 (0,0))
 ne:p≠B
 small:js.length≤16
 fits:∀ j∈js,j.Fits
 tl:t.lease≤1099511627776
 tw:t.wait≤1099511627776
 tm:t.most≤1099511627776
 lastFits:last < 18446744073709551616
structure Kept (w w':World) (p B:Nat):Prop where
 os:w'.os=w.os
 tape:w'.tape=w.tape
 output:w'.output=w.output
 size:w.heap.size≤w'.heap.size
 block:∀ k,k < w.heap.size→k≠p→k≠B→w'.heap[k]?=w.heap[k]?
theorem Kept.refl (w:World) (p B:Nat):Kept w w p B:=⟨rfl,rfl,rfl,Nat.le_refl _,λ_ _ _ _=>rfl⟩
theorem Kept.trans {w w1 w2:World} {p B:Nat} (h:Kept w w1 p B) (k:Kept w1 w2 p B):Kept w w2 p B :=
 ⟨k.os.trans h.os,k.tape.trans h.tape,k.output.trans h.output,Nat.le_trans h.size k.size,λb hb h1 h2=>(k.block b (Nat.lt_of_lt_of_le hb h.size) h1 h2).trans (h.block b hb h1 h2)⟩
theorem Kept.of_below {w w':World} {p B:Nat} (h:Below w.heap.size w w'):Kept w w' p B:=⟨h.os,h.tape,h.output,h.size,λk hk _ _=>h.block k hk⟩
theorem Kept.setCell (w:World) (p B:Nat) (a:Addr) (v:Value) (h:a.block=p∨a.block=B):Kept w (w.setCell a v) p B :=
 ⟨rfl,rfl,rfl,by simp,λk _ h1 h2=>heap_setCell_other w a k v (by rcases h with h|h<;>rw[h]<;>assumption)⟩
section
variable {w w':World} {p B:Nat} {js:List Job} {t:Times} {last:Nat}
theorem TabAt.lt (h:TabAt w p B js t last):p < w.heap.size∧B < w.heap.size:=⟨(Array.getElem?_eq_some_iff.1 h.head).1,(Array.getElem?_eq_some_iff.1 h.body).1⟩
theorem TabAt.old (h:TabAt w p B js t last) (hb:Below w.heap.size w w'):TabAt w' p B js t last :=
 { h with head:=by rw[hb.block p h.lt.1];exact h.head,body:=by rw[hb.block B h.lt.2];exact h.body }
theorem TabAt.drewN (h:TabAt w p B js t last) (n:Nat):TabAt (w.drewN n) p B js t last:={ h with head:=h.head,body:=h.body }
theorem TabAt.cellHead (h:TabAt w p B js t last) (k:Nat) (hk:k < 5):w.cell? ⟨p,k,none⟩=(Go.Proofs.YtjkgligohegaeaaGreatDoor.Ls.head B js.length t last)[k]?:=by
 unfold World.cell?
 rw[h.head]
 rfl
theorem TabAt.cellBody (h:TabAt w p B js t last) (i:Nat) (hi:i < js.length) (k:Nat) (hk:k < 5):w.cell? ⟨B,i*5+k,none⟩=js[i].cells[k]?:=by
 unfold World.cell?
 rw[h.body]
 simpa using flat_get js i hi k hk
theorem TabAt.freeBody (h:TabAt w p B js t last) (k:Nat):w.frozen? ⟨B,k,none⟩=false:=by
 unfold World.frozen?
 rw[h.body]
 simp
theorem TabAt.freeHead (h:TabAt w p B js t last) (k:Nat):w.frozen? ⟨p,k,none⟩=false:=by
 unfold World.frozen?
 rw[h.head]
 simp
theorem TabAt.setJob (h:TabAt w p B js t last) (i:Nat) (hi:i < js.length) (k:Nat) (hk:k < 5) (j':Job) (v:Value) (hc:j'.cells=js[i].cells.set k v) (hf:j'.Fits) :
  TabAt (w.setCell ⟨B,i*5+k,none⟩ v) p B (js.set i j') t last :=
 { h with
  head:=by rw[heap_setCell_other w _ p v h.ne,h.head,List.length_set]
  body:=by rw[Go.Joins.block_setCell h.body,flat_set js i hi k hk j' v hc]
  small:=by rw[List.length_set];exact h.small
  fits:=λx hx=>by
   rcases List.mem_or_eq_of_mem_set hx with hx|rfl
   ·exact h.fits x hx
   ·exact hf }
theorem TabAt.setAll (h:TabAt w p B js t last) (i:Nat) (hi:i < js.length) (j':Job) (hf:j'.Fits) :
  TabAt (((((w.setCell ⟨B,i*5,none⟩ (.bool j'.done)).setCell ⟨B,i*5+1,none⟩ (.int .u64 j'.lease)).setCell ⟨B,i*5+2,none⟩ (.int .u64 j'.deadline)).setCell ⟨B,i*5+3,none⟩ (.int .i64 j'.tries)).setCell ⟨B,i*5+4,none⟩ (.int .u64 j'.ready)) p B (js.set i j') t last:=by
 have f:=h.fits _ (List.getElem_mem hi)
 have h0:=h.setJob i hi 0 (by omega) { js[i] with done:=j'.done } (.bool j'.done) rfl ⟨f.lease,f.deadline,f.tries,f.ready⟩
 have h1:=h0.setJob i (by simpa using hi) 1 (by omega) { js[i] with done:=j'.done,lease:=j'.lease } (.int .u64 j'.lease) (by simp[Job.cells]) ⟨hf.lease,f.deadline,f.tries,f.ready⟩
 have h2:=h1.setJob i (by simpa using hi) 2 (by omega) { js[i] with done:=j'.done,lease:=j'.lease,deadline:=j'.deadline } (.int .u64 j'.deadline) (by simp[Job.cells]) ⟨hf.lease,hf.deadline,f.tries,f.ready⟩
 have h3:=h2.setJob i (by simpa using hi) 3 (by omega) { j' with ready:=js[i].ready } (.int .i64 j'.tries) (by simp[Job.cells]) ⟨hf.lease,hf.deadline,hf.tries,f.ready⟩
 have h4:=h3.setJob i (by simpa using hi) 4 (by omega) j' (.int .u64 j'.ready) (by simp[Job.cells]) hf
 simpa only[List.set_set,Nat.add_zero] using h4
theorem TabAt.setLast (h:TabAt w p B js t last) (n:Nat) (hn:n < 18446744073709551616):TabAt (w.setCell ⟨p,4,none⟩ (.int .u64 n)) p B js t n :=
 { h with
  head:=by rw[Go.Joins.block_setCell h.head];rfl
  body:=by rw[heap_setCell_other w _ B _ (Ne.symm h.ne),h.body]
  lastFits:=hn }
end
end Go.Proofs.YtjkgligohegaeaaGreatDoor.Ls
namespace Go.Proofs.YtjkgligohegaeaaGreatDoor.Ls
open Go.RowKit
def dbl (w m:Nat):Nat→Nat
 |0=>w
 |n+1=>min (2*dbl w m n) m
def waits (t:Times) (tries:Nat):Nat:=dbl t.wait t.most (tries-1)
theorem dbl_bound (w m:Nat) (hw:w≤1099511627776) (hm:m≤1099511627776):∀ n,dbl w m n≤1099511627776
 |0=>hw
 |n+1=>Nat.le_trans (Nat.min_le_right _ _) hm
theorem dbl_most (w m:Nat) (n:Nat) (h:dbl w m n=m) (hm:0 < m∨True):∀ k,dbl w m (n+k)=m
 |0=>h
 |k+1=>by
  show min (2*dbl w m (n+k)) m=m
  rw[dbl_most w m n h hm k]
  omega
theorem minU (a b c:Nat) (h:c=min a b) (ts:Array TypeId) (t:TypeId) (w:World) :
  (Builtin.min_ ts t #[.int .u64 (a:Int),.int .u64 (b:Int)]).run Tryz.prog w=.ok (.int .u64 (c:Int)) w:=by
 rw[run_min_int2]
 congr 2
 subst h
 split<;>omega
theorem wrapU (n:Nat) (h:n < 18446744073709551616):IntKind.u64.wrap (n:Int)=(n:Int):=by
 simp[IntKind.wrap,IntKind.bits,IntKind.signed]
 omega
theorem wait_any (p B:Nat) (js:List Job) (t:Times) (last:Nat) (n:Nat) (w:World) (h:TabAt w p B js t last) (hn:n≤64) :
  Calls Tryz.prog 129 #[.pointer (some ⟨p,0,none⟩),.int .i64 n] w λe w'=>e=.returned (.int .u64 (waits t n))∧w'=w:=by
 have c1:w.cell? ⟨p,2,none⟩=some (.int .u64 t.wait):=h.cellHead 2 (by omega)
 have c2:w.cell? ⟨p,3,none⟩=some (.int .u64 t.most):=h.cellHead 3 (by omega)
 obtain⟨tw,htw⟩:∃ x,x=t.wait:=⟨_,rfl⟩
 obtain⟨tm,htm⟩:∃ x,x=t.most:=⟨_,rfl⟩
 have hW:Hd (waits t n=dbl tw tm (n-1)∧tw≤1099511627776∧tm≤1099511627776):=⟨by rw[htw,htm];exact⟨rfl,h.tw,h.tm⟩⟩
 rw[←htw] at c1
 rw[←htm] at c2
 clear h htw htm
 go_enter Tryz.func129,Tryz.ntmps129
 go_wp2
 go_loop [5,13] (λv i=>∃ k:Nat,k≤n-1∧i=.int .i64 k∧v=.int .u64 (dbl tw tm k)) (λ_ i=>n-1-(intOf i).toNat)
 case atStart=>exact⟨0,Nat.zero_le _,rfl,rfl⟩
 case round =>
  obtain⟨k,hk,rfl,rfl⟩:=hrel
  by_cases hlt:k < n-1
  ·have hlt':(k:Int) < (n:Int)-1:=by omega
   obtain⟨d,hd⟩:∃ d,d=dbl tw tm k:=⟨_,rfl⟩
   have hdb:=dbl_bound tw tm hW.o.2.1 hW.o.2.2 k
   rw[←hd] at hdb⊢
   obtain⟨d2,hd2⟩:∃ d2,d2=2*d:=⟨_,rfl⟩
   have hw2:IntKind.u64.wrap (2*(d:Int))=(d2:Int):=by rw[show (2*(d:Int))=(d2:Int) from by omega];exact wrapU _ (by omega)
   obtain⟨c,hc⟩:∃ c,c=min d2 tm:=⟨_,rfl⟩
   have hmin:=minU d2 tm c hc
   have HC:Hd (c=dbl tw tm (k+1)):=⟨by rw[hc,hd2,hd];rfl⟩
   clear hc hd hdb hd2
   by_cases hq:c=tm
   ·have hq':((c:Int) == (tm:Int))=true:=by simp[hq]
    have HQ:=Hm hq
    clear hq
    go_wp2
    go_ret
    have:=dbl_most tw tm (k+1) (by rw[←HC.o];exact HQ.o) (.inr trivial) (n-1-(k+1))
    rw[show k+1+(n-1-(k+1))=n-1 from by omega] at this
    have e1:waits t n=c:=by rw[hW.o.1,this,HQ.o]
    rw[e1]
    exact⟨rfl,rfl⟩
   ·have hq':((c:Int) == (tm:Int))=false:=beq_eq_false_iff_ne.2 (by omega)
    clear hq
    go_wp2
    go_round
    case rel=>exact⟨k+1,by omega,by go_num,by rw[HC.o]⟩
    case measure=>simp[intOf];omega
  ·have hlt':¬(k:Int) < (n:Int)-1:=by omega
   obtain rfl:k=n-1:=by omega
   go_wp2
   go_ret
   exact⟨by rw[hW.o.1];rfl,rfl⟩
end Go.Proofs.YtjkgligohegaeaaGreatDoor.Ls
namespace Go.Proofs.YtjkgligohegaeaaGreatDoor.Ls
open Go.RowKit
def Job.over (j:Job) (t:Times) (now:Nat):Job:={ j with lease:=0,deadline:=0,ready:=now+waits t j.tries }
theorem waits_le (t:Times) (hw:t.wait≤1099511627776) (hm:t.most≤1099511627776) (n:Nat):waits t n≤1099511627776:=dbl_bound _ _ hw hm _
theorem pos64:0 < 18446744073709551616:=by omega
theorem back_any (p B:Nat) (js:List Job) (t:Times) (last:Nat) (i now:Nat) (w:World) (h:TabAt w p B js t last) (hi:i < js.length) (hn:now≤1099511627776) :
  Calls Tryz.prog 100 #[.pointer (some ⟨p,0,none⟩),.int .i64 i,.int .u64 now] w λe w'=>(∃ v,e=.returned v)∧TabAt w' p B (js.set i (js[i].over t now)) t last∧Kept w w' p B:=by
 have c0:w.cell? ⟨p,0,none⟩=some (.slice (some ⟨B,0,none⟩) js.length js.length):=h.cellHead 0 (by omega)
 have c3:w.cell? ⟨B,i*5+3,none⟩=some (.int .i64 js[i].tries):=h.cellBody i hi 3 (by omega)
 have H:=Hm h
 have HF:=Hm (h.fits _ (List.getElem_mem hi))
 clear h
 go_enter Tryz.func100,Tryz.ntmps100
 go_wp2_with fail
 have hy:=wait_any p B js t last js[i].tries w H.o HF.o.tries
 refine hy.mono ?_
 clear hy
 rintro e w' ⟨rfl,rfl⟩
 obtain⟨m,hm⟩:∃ m,m=waits t js[i].tries:=⟨_,rfl⟩
 have hmb:=waits_le t H.o.tw H.o.tm js[i].tries
 rw[←hm] at hmb⊢
 have hwr:IntKind.u64.wrap ((now:Int)+(m:Int))=((now+m:Nat):Int):=by rw[show ((now:Int)+(m:Int))=((now+m:Nat):Int) from by omega];exact wrapU _ (by omega)
 have HM:=Hm hm
 clear hm
 obtain⟨c1,c2,c4⟩:w'.cell? ⟨B,i*5+1,none⟩=some (.int .u64 js[i].lease)∧w'.cell? ⟨B,i*5+2,none⟩=some (.int .u64 js[i].deadline)∧w'.cell? ⟨B,i*5+4,none⟩=some (.int .u64 js[i].ready) :=
  ⟨H.o.cellBody i hi 1 (by omega),H.o.cellBody i hi 2 (by omega),H.o.cellBody i hi 4 (by omega)⟩
 have f1:=H.o.freeBody (i*5+1)
 have f2:=H.o.freeBody (i*5+2)
 have f4:=H.o.freeBody (i*5+4)
 go_wp2
 have hf:=HF.o
 have h1:=H.o.setJob i hi 1 (by omega) { js[i] with lease:=0 } (.int .u64 0) rfl ⟨pos64,hf.deadline,hf.tries,hf.ready⟩
 have h2:=h1.setJob i (by simpa using hi) 2 (by omega) { js[i] with lease:=0,deadline:=0 } (.int .u64 0) (by simp[Job.cells]) ⟨pos64,pos64,hf.tries,hf.ready⟩
 have h3:=h2.setJob i (by simpa using hi) 4 (by omega) (js[i].over t now) (.int .u64 ((now:Int)+(m:Int))) (by simp[Job.cells,Job.over,HM.o]) ⟨pos64,pos64,hf.tries,by simp only[Job.over];rw[←HM.o];omega⟩
 simp only[List.set_set] at h3
 refine bodyPost_end (v:=.tuple #[]) (by kernel_rfl) rfl ?_
 exact⟨⟨_,rfl⟩,h3,((Kept.setCell _ p B _ _ (.inr rfl)).trans (Kept.setCell _ p B _ _ (.inr rfl))).trans (Kept.setCell _ p B _ _ (.inr rfl))⟩
end Go.Proofs.YtjkgligohegaeaaGreatDoor.Ls
namespace Go.Proofs.YtjkgligohegaeaaGreatDoor.Ls
open Go.RowKit
def answerIn (j:Job) (lease:Nat):Int:=if j.done then 61 else if lease=0∨j.lease≠lease then 60 else 0
theorem answer_in (p B:Nat) (js:List Job) (t:Times) (last:Nat) (i lease:Nat) (w:World) (h:TabAt w p B js t last) (hi:i < js.length) (hl:lease < 18446744073709551616) :
  Calls Tryz.prog 106 #[.pointer (some ⟨p,0,none⟩),.int .i64 i,.int .u64 lease] w λe w'=>e=.returned (.int .i64 (answerIn js[i] lease))∧w'=w:=by
 have c0:w.cell? ⟨p,0,none⟩=some (.slice (some ⟨B,0,none⟩) js.length js.length):=h.cellHead 0 (by omega)
 have d0:w.cell? ⟨B,i*5,none⟩=some (.bool js[i].done):=h.cellBody i hi 0 (by omega)
 have d1:w.cell? ⟨B,i*5+1,none⟩=some (.int .u64 js[i].lease):=h.cellBody i hi 1 (by omega)
 obtain⟨j,hj⟩:∃ j,j=js[i]:=⟨_,rfl⟩
 rw[←hj] at d0 d1⊢
 clear h hj
 obtain⟨dn,le,dl,tr,rd⟩:=j
 simp only at d0 d1
 cases dn with
 |true =>
  go_enter Tryz.func106,Tryz.ntmps106
  go_wp2
  go_ret
  exact⟨rfl,rfl⟩
 |false =>
  by_cases h0:lease=0
  ·subst h0
   go_enter Tryz.func106,Tryz.ntmps106
   go_wp2
   go_ret
   exact⟨rfl,rfl⟩
  ·have h0':((lease:Int) == 0)=false:=beq_eq_false_iff_ne.2 (by omega)
   by_cases h1:le=lease
   ·subst h1
    have e:answerIn ⟨false,le,dl,tr,rd⟩ le=0:=by simp[answerIn,h0]
    rw[e]
    clear h0 e
    go_enter Tryz.func106,Tryz.ntmps106
    go_wp2
    go_ret
    exact⟨rfl,rfl⟩
   ·have e:answerIn ⟨false,le,dl,tr,rd⟩ lease=60:=by simp[answerIn,h0,h1]
    have h1':((le:Int) == (lease:Int))=false:=beq_eq_false_iff_ne.2 (by omega)
    rw[e]
    clear h0 h1 e
    go_enter Tryz.func106,Tryz.ntmps106
    go_wp2
    go_ret
    exact⟨rfl,rfl⟩
end Go.Proofs.YtjkgligohegaeaaGreatDoor.Ls
namespace Go.Proofs.YtjkgligohegaeaaGreatDoor.Ls
open Go.RowKit
theorem Kept.drew (w:World) (p B:Nat):Kept w w.drew p B:=⟨rfl,rfl,rfl,Nat.le_refl _,λ_ _ _ _=>rfl⟩
def Job.ended (j:Job):Job:=⟨true,0,0,j.tries,0⟩
theorem done_in (p B:Nat) (js:List Job) (t:Times) (last:Nat) (i:Nat) (w:World) (h:TabAt w p B js t last) (hi:i < js.length) :
  Calls Tryz.prog 70 #[.pointer (some ⟨p,0,none⟩),.int .i64 i] w λe w'=>Kept w w' p B ∧
   if js[i].done then e=.returned (.int .i64 61)∧TabAt w' p B js t last else e=.returned (.int .i64 0)∧TabAt w' p B (js.set i js[i].ended) t last:=by
 have H:=Hm h
 clear h
 by_cases hd:js[i].done=true
 ·simp only[if_pos hd]
  have HD:Hd (answerIn js[i] 0=61):=⟨by simp[answerIn,hd]⟩
  clear hd
  go_enter Tryz.func70,Tryz.ntmps70
  go_wp2_with fail
  have hy:=answer_in p B js t last i 0 w H.o hi (by omega)
  rw[HD.o] at hy
  refine hy.mono ?_
  clear hy
  rintro e w' ⟨rfl,rfl⟩
  go_wp2
  go_ret
  exact⟨Kept.refl _ _ _,rfl,H.o⟩
 ·simp only[if_neg hd]
  have HD:Hd (answerIn js[i] 0=60):=⟨by simp[answerIn,hd]⟩
  have HE:=Hm hd
  clear hd
  go_enter Tryz.func70,Tryz.ntmps70
  go_wp2_with fail
  have hy:=answer_in p B js t last i 0 w H.o hi (by omega)
  rw[HD.o] at hy
  refine hy.mono ?_
  clear hy
  rintro e w' ⟨rfl,rfl⟩
  have c0:w'.cell? ⟨p,0,none⟩=some (.slice (some ⟨B,0,none⟩) js.length js.length):=H.o.cellHead 0 (by omega)
  obtain⟨d0,d1,d2,d3,d4⟩:w'.cell? ⟨B,i*5,none⟩=some (.bool js[i].done)∧w'.cell? ⟨B,i*5+1,none⟩=some (.int .u64 js[i].lease)∧w'.cell? ⟨B,i*5+2,none⟩=some (.int .u64 js[i].deadline) ∧
    w'.cell? ⟨B,i*5+3,none⟩=some (.int .i64 js[i].tries)∧w'.cell? ⟨B,i*5+4,none⟩=some (.int .u64 js[i].ready) :=
   ⟨H.o.cellBody i hi 0 (by omega),H.o.cellBody i hi 1 (by omega),H.o.cellBody i hi 2 (by omega),H.o.cellBody i hi 3 (by omega),H.o.cellBody i hi 4 (by omega)⟩
  have f0:=H.o.freeBody (i*5)
  have f1:=H.o.freeBody (i*5+1)
  have f2:=H.o.freeBody (i*5+2)
  have f3:=H.o.freeBody (i*5+3)
  have f4:=H.o.freeBody (i*5+4)
  go_wp2
  go_still_tail 15,(by kernel_rfl)
  go_wp2
  go_ret
  refine⟨?_,rfl,(H.o.setAll i hi js[i].ended ⟨pos64,pos64,(H.o.fits _ (List.getElem_mem hi)).tries,pos64⟩).drewN 1⟩
  exact((((((Kept.setCell _ p B _ _ (.inr rfl)).trans (Kept.setCell _ p B _ _ (.inr rfl))).trans (Kept.setCell _ p B _ _ (.inr rfl))).trans (Kept.setCell _ p B _ _ (.inr rfl))).trans (Kept.setCell _ p B _ _ (.inr rfl))).trans (Kept.drew _ p B))
end Go.Proofs.YtjkgligohegaeaaGreatDoor.Ls
namespace Go.Proofs.YtjkgligohegaeaaGreatDoor.Ls
open Go.RowKit
def bad (n:Nat):Bool:=decide (n < 1) || decide (1099511627776 < n)
theorem most_any (n:Nat) (w:World):Calls Tryz.prog 116 #[.int .u64 n] w λe w'=>e=.returned (.bool (bad n))∧w'=w:=by
 by_cases h1:n < 1
 ·have e:bad n=true:=by simp[bad,h1]
  rw[e]
  have h1':(n:Int) < 1:=by omega
  clear e h1
  go_enter Tryz.func116,Tryz.ntmps116
  go_wp2
  go_ret
  exact⟨rfl,rfl⟩
 ·by_cases h2:1099511627776 < n
  ·have e:bad n=true:=by simp[bad,h2]
   rw[e]
   have h1':¬(n:Int) < 1:=by omega
   have h2':(1099511627776:Int) < n:=by omega
   clear e h1 h2
   go_enter Tryz.func116,Tryz.ntmps116
   go_wp2
   go_ret
   exact⟨rfl,rfl⟩
  ·have e:bad n=false:=by simp[bad,h2];omega
   rw[e]
   have h1':¬(n:Int) < 1:=by omega
   have h2':¬(1099511627776:Int) < n:=by omega
   clear e h1 h2
   go_enter Tryz.func116,Tryz.ntmps116
   go_wp2
   go_ret
   exact⟨rfl,rfl⟩
theorem infoJob:(Tryz.prog.info? 53).map (λi=>(i.zero,i.size,i.bytes))=some (some (.agg #[.bool false,.int .u64 0,.int .u64 0,.int .i64 0,.int .u64 0]),5,40):=by kernel_rfl
theorem made_zero (n:Nat) (h:n≤16):madeCells (Value.agg #[.bool false,.int .u64 0,.int .u64 0,.int .i64 0,.int .u64 0]).cells (n*5)=(flat (List.replicate n Job.zero)).toArray:=by
 rcases n with _|_|_|_|_|_|_|_|_|_|_|_|_|_|_|_|_|n
 case succ.succ.succ.succ.succ.succ.succ.succ.succ.succ.succ.succ.succ.succ.succ.succ.succ=>omega
 all_goals kernel_rfl
theorem make_jobs (n:Nat) (h:n≤16) (w:World):(Instr.makeSlice 46 (.int .i64 (n:Int)) (.int .i64 (n:Int))).run Tryz.prog w =
  .ok (.slice (some ⟨w.heap.size,0,none⟩) n n) (w.alloc (.cells (flat (List.replicate n Job.zero)).toArray 53)):=by
 obtain⟨i0,hi,hz0,hz1,hz2⟩:=info_parts infoJob
 rw[run_makeSlice w 46 53 i0 _ Tryz.underlying46 hi hz0 .i64 .i64 n n (by omega) (Int.le_refl _) (by rw[hz1];simp;omega) (by rw[hz2];omega) (by omega)]
 rw[hz1,Int.toNat_natCast,made_zero n h]
theorem new_ok (n:Nat) (t:Times) (last:Nat) (w:World) (h1:1≤n) (h2:n≤16) (hl:bad t.lease=false) (hw:bad t.wait=false) (hm:bad t.most=false) (hwm:¬t.most < t.wait) (hlast:last < 18446744073709551616) :
  Calls Tryz.prog 74 #[.int .i64 n,.agg #[.int .u64 t.lease,.int .u64 t.wait,.int .u64 t.most],.int .u64 last] w λe w'=>∃ p B,e=.returned (.tuple #[.pointer (some ⟨p,0,none⟩),.int .i64 0]) ∧
   TabAt w' p B (List.replicate n Job.zero) t last∧Below w.heap.size w w'∧w.heap.size≤p∧w.heap.size≤B:=by
 have HL:=Hm hl
 have HW:=Hm hw
 have HM:=Hm hm
 have hwm':¬(t.most:Int) < (t.wait:Int):=by omega
 clear hl hw hm hwm
 go_enter Tryz.func74,Tryz.ntmps74
 go_wp2_with fail
 have hy:=λw=>most_any t.lease w
 refine(hy _).mono ?_
 clear hy
 rw[HL.o]
 rintro e w' ⟨rfl,rfl⟩
 go_wp2_with fail
 have hy:=λw=>most_any t.wait w
 refine(hy _).mono ?_
 clear hy
 rw[HW.o]
 rintro e w' ⟨rfl,rfl⟩
 go_wp2_with fail
 have hy:=λw=>most_any t.most w
 refine(hy _).mono ?_
 clear hy
 rw[HM.o]
 rintro e w' ⟨rfl,rfl⟩
 go_wp2_with fail
 obtain⟨y0,hy0⟩:∃ y,y=w.alloc (.cells #[.int .u64 t.lease,.int .u64 t.wait,.int .u64 t.most] 24):=⟨_,rfl⟩
 rw[←hy0]
 have hrow:Row y0 (some ⟨w.heap.size,0,none⟩) [.int .u64 t.lease,.int .u64 t.wait,.int .u64 t.most]:=by rw[hy0];exact row_new _ _ _ _
 have hbw:Below w.heap.size w y0:=by rw[hy0];exact(Below.refl _ _).alloc (Nat.le_refl _) _
 have HR:=Hm hrow
 have HB:=Hm hbw
 clear hrow hbw hy0
 refine wp_region_rely (by kernel_rfl) (by kernel_rfl) (λi v w'=>match i with
  |0=>v=.int .i64 n
  |1=>∃ B,v=.slice (some ⟨B,0,none⟩) n n∧w'.heap[B]?=some (.cells (flat (List.replicate n Job.zero)).toArray 53 (0,0))∧y0.heap.size≤B
  |2=>v=.agg #[.int .u64 t.lease,.int .u64 t.wait,.int .u64 t.most]
  |3=>v=.int .u64 last
  |4=>∃ B,v=.agg (head B n t last)∧w'.heap[B]?=some (.cells (flat (List.replicate n Job.zero)).toArray 53 (0,0))∧y0.heap.size≤B
  |7=>v=.int .i64 0
  |_=>∃ p B,v=.pointer (some ⟨p,0,none⟩)∧w'.heap[p]?=some (.cells (head B n t last) 171 (0,0))∧w'.heap[B]?=some (.cells (flat (List.replicate n Job.zero)).toArray 53 (0,0))∧p≠B∧y0.heap.size≤B∧y0.heap.size≤p)
  (λw1 w2=>Below w1.heap.size w1 w2) (Below.refl _ _) (λw1 w2 w3 h1 h2=>h1.trans (h2.mono h1.size)) ?_ (n:=46) (by kernel_rfl) rfl ?_ ?_
 ·have keep:∀ {w1 w2:World} {b:Nat} {o:Obj},Below w1.heap.size w1 w2→w1.heap[b]?=some o→w2.heap[b]?=some o:=λhb h=>by
   rw[hb.block _ (Array.getElem?_eq_some_iff.1 h).1];exact h
  intro i v w1 w2 h1 h2
  match i,h1 with
  |0,h1|2,h1|3,h1|7,h1=>exact h1
  |1,⟨B,e,hp,hs⟩=>exact⟨B,e,keep h2 hp,hs⟩
  |4,⟨B,e,hp,hs⟩=>exact⟨B,e,keep h2 hp,hs⟩
  |5,⟨p,B,e,hp,hq,hs⟩|6,⟨p,B,e,hp,hq,hs⟩|_+8,⟨p,B,e,hp,hq,hs⟩=>exact⟨p,B,e,keep h2 hp,keep h2 hq,hs⟩
 ·simp only[Obl]
  refine⟨?_,?_,?_,?_,?_,?_,?_,?_,trivial⟩
  all_goals
   intro vs w' hR hK
   simp[depsOf,Region.binds,putsOn,dstOf,Act.put,Known,seen] at hK⊢
  case refine_1|refine_4|refine_8=>go_wp2;exact⟨rfl,rfl,Below.refl _ _,rfl⟩
  case refine_3 =>
   have hr:=HR.o.below (below_undrew hR)
   obtain⟨b0,o0,e0,c0⟩:=hr 0 (by simp)
   obtain⟨b1,o1,e1,c1⟩:=hr 1 (by simp)
   obtain⟨b2,o2,e2,c2⟩:=hr 2 (by simp)
   simp only[Option.some.injEq,Addr.mk.injEq,and_true] at e0 e1 e2
   obtain⟨rfl,rfl⟩:=e0
   obtain⟨rfl,rfl⟩:=e1
   obtain⟨rfl,rfl⟩:=e2
   simp only[List.getElem_cons_succ,List.getElem_cons_zero,Nat.zero_add] at c0 c1 c2
   clear hr
   go_wp2
   exact⟨rfl,rfl,Below.refl _ _,rfl⟩
  case refine_5 =>
   obtain⟨⟨B,hB,hp,hs⟩,h2,h3⟩:=hK
   have HP:=Hm hp
   clear hp
   go_wp2
   exact⟨rfl,rfl,Below.refl _ _,B,rfl,HP.o,hs⟩
  case refine_6 =>
   obtain⟨B,hB,hp,hs⟩:=hK
   have hsz:=(below_undrew hR).size
   have HP:=Hm hp
   clear hp
   simp only[head] at hB
   go_wp2
   refine⟨rfl,rfl,(Below.refl _ _).alloc (Nat.le_refl _) _,_,rfl,B,heap_new _ _,?_,?_,hs,hsz⟩
   ·rw[heap_old _ _ _ (Array.getElem?_eq_some_iff.1 HP.o).1]
    exact HP.o
   ·have:=(Array.getElem?_eq_some_iff.1 HP.o).1
    omega
  case refine_7 =>
   have h5:=hK.1
   clear hK
   go_wp2
   exact⟨rfl,rfl,Below.refl _ _,h5⟩
  case refine_2 =>
   have hsz:=(below_undrew hR).size
   have hnn:(n:Int)≤16:=by omega
   have hmk:=make_jobs n h2 w'
   go_wp2
   exact⟨rfl,rfl,(Below.refl _ _).alloc (Nat.le_refl _) _,_,rfl,heap_new _ _,hsz⟩
 ·intro vs w' hR hK
  simp[Known,List.range,List.range.loop] at hK
  obtain⟨-,-,-,-,-,-,⟨p,h6,B,hp,hq,hne,hsB,hsp⟩,h7⟩:=hK
  have hb:=below_undrew hR
  have H6:=Hm (And.intro hp (And.intro hq (And.intro hne (And.intro hsB hsp))))
  have HBL:=Hm hb
  have hsz:=HB.o.size
  clear hp hq hne hsB hsp hR hb
  simp[putsOn,dstOf,Act.put,List.range,List.range.loop]
  go_wp2
  go_ret2
  refine⟨p,B,by simp[h6,h7],?_,HB.o.trans (HBL.o.mono hsz),Nat.le_trans hsz H6.o.2.2.2.2,Nat.le_trans hsz H6.o.2.2.2.1⟩
  have hl:=HL.o
  have hw:=HW.o
  have hm:=HM.o
  simp[bad] at hl hw hm
  exact { head:=by rw[List.length_replicate];exact H6.o.1,body:=H6.o.2.1,ne:=H6.o.2.2.1,small:=by rw[List.length_replicate];exact h2,fits:=(λj hj=>by rw[(List.mem_replicate.1 hj).2];exact⟨pos64,pos64,Nat.zero_le _,pos64⟩),tl:=hl.2,tw:=hw.2,tm:=hm.2,lastFits:=hlast }
end Go.Proofs.YtjkgligohegaeaaGreatDoor.Ls
namespace Go.Proofs.YtjkgligohegaeaaGreatDoor.Ls
open Go.RowKit
def Job.free (j:Job) (now:Nat):Bool:=!j.done && j.lease == 0 && decide (j.ready≤now)
theorem free_any (j:Job) (now b:Nat) (w:World) (hb:w.cell? ⟨b,0,none⟩=some (.int .u64 now)) :
  Calls Tryz.prog 102 #[.agg #[.bool j.done,.int .u64 j.lease,.int .u64 j.deadline,.int .i64 j.tries,.int .u64 j.ready],.pointer (some ⟨b,0,none⟩)] w λe w'=>e=.returned (.bool (j.free now))∧Below w.heap.size w w':=by
 have hlt:b < w.heap.size:=World.block_lt_of_cell? w ⟨b,0,none⟩ hb
 have hne:¬w.heap.size=b:=by omega
 have hne2:¬b=w.heap.size:=by omega
 obtain⟨dn,le,dl,tr,rd⟩:=j
 simp only
 cases dn with
 |true =>
  go_enter Tryz.func102,Tryz.ntmps102
  go_wp2
  go_ret
  exact⟨rfl,(Below.refl _ _).alloc (Nat.le_refl _) _⟩
 |false =>
  by_cases h1:le=0
  ·subst h1
   by_cases h2:rd≤now
   ·have e:Job.free ⟨false,0,dl,tr,rd⟩ now=true:=by simp[Job.free,h2]
    have h2':(rd:Int)≤(now:Int):=by omega
    rw[e]
    clear e h2
    go_enter Tryz.func102,Tryz.ntmps102
    go_wp2
    go_ret
    exact⟨rfl,(Below.refl _ _).alloc (Nat.le_refl _) _⟩
   ·have e:Job.free ⟨false,0,dl,tr,rd⟩ now=false:=by simp[Job.free,h2]
    have h2':¬(rd:Int)≤(now:Int):=by omega
    rw[e]
    clear e h2
    go_enter Tryz.func102,Tryz.ntmps102
    go_wp2
    go_ret
    exact⟨rfl,(Below.refl _ _).alloc (Nat.le_refl _) _⟩
  ·have e:Job.free ⟨false,le,dl,tr,rd⟩ now=false:=by simp[Job.free,h1]
   have h1':((le:Int) == 0)=false:=beq_eq_false_iff_ne.2 (by omega)
   rw[e]
   clear e h1
   go_enter Tryz.func102,Tryz.ntmps102
   go_wp2
   go_ret
   exact⟨rfl,(Below.refl _ _).alloc (Nat.le_refl _) _⟩
def firstFree (js:List Job) (now:Nat):Option Nat:=js.findIdx? (·.free now)
def firstV (o:Option Nat):Int:=match o with|some i=>i|none=>-1
theorem index_any (p B:Nat) (js:List Job) (t:Times) (last now b:Nat) (w:World) (h:TabAt w p B js t last) (hb:w.cell? ⟨b,0,none⟩=some (.int .u64 now)) :
  Calls Tryz.prog 101 #[.slice (some ⟨B,0,none⟩) js.length js.length,.func (.func 102) #[] #[.pointer (some ⟨b,0,none⟩)]] w λe w'=>e=.returned (.int .i64 (firstV (firstFree js now)))∧Below w.heap.size w w':=by
 have H:=Hm h
 have HB:=Hm hb
 have hsm:=h.small
 clear h hb
 go_enter Tryz.func101,Tryz.ntmps101
 go_wp2
 go_loopw [8] (λi wz=>∃ k:Nat,k≤js.length∧i=.int .i64 k∧(∀ x∈js.take k,x.free now=false)∧Below w.heap.size w wz) (λi _=>js.length-(intOf i).toNat)
 case atStart=>exact⟨0,Nat.zero_le _,rfl,by simp,Below.refl _ _⟩
 case round =>
  obtain⟨k,hk,rfl,hall,hbel⟩:=hrel
  have HA:=Hm hall
  have HL:=Hm hbel
  clear hall hbel
  by_cases hlt:k < js.length
  ·have ht:=H.o.old HL.o
   have d0:wr.cell? ⟨B,k*5,none⟩=some (.bool js[k].done):=ht.cellBody k hlt 0 (by omega)
   have d1:wr.cell? ⟨B,k*5+1,none⟩=some (.int .u64 js[k].lease):=ht.cellBody k hlt 1 (by omega)
   have d2:wr.cell? ⟨B,k*5+2,none⟩=some (.int .u64 js[k].deadline):=ht.cellBody k hlt 2 (by omega)
   have d3:wr.cell? ⟨B,k*5+3,none⟩=some (.int .i64 js[k].tries):=ht.cellBody k hlt 3 (by omega)
   have d4:wr.cell? ⟨B,k*5+4,none⟩=some (.int .u64 js[k].ready):=ht.cellBody k hlt 4 (by omega)
   clear ht
   go_wp2_with fail
   have hy:=free_any js[k] now b wr ((HL.o.cell (p:=⟨b,0,none⟩) (World.block_lt_of_cell? w ⟨b,0,none⟩ HB.o)).trans HB.o)
   refine hy.mono ?_
   clear hy
   rintro e w2 ⟨rfl,hbl⟩
   have HL2:Hd (Below w.heap.size w w2):=⟨HL.o.trans (hbl.mono HL.o.size)⟩
   clear hbl d0 d1 d2 d3 d4
   cases hf:js[k].free now with
   |true =>
    have HF:=Hm hf
    clear hf
    go_wp2
    go_ret
    refine⟨?_,HL2.o⟩
    have e1:firstFree js now=some k:=by
     unfold firstFree
     rw[List.findIdx?_eq_some_iff_getElem]
     refine⟨hlt,HF.o,λj hj=>?_⟩
     have:=HA.o js[j] (List.mem_iff_getElem.2 ⟨j,by simp;omega,by simp⟩)
     simp[this]
    rw[e1]
    rfl
   |false =>
    have HF:=Hm hf
    clear hf
    go_wp2
    go_roundw
    case rel =>
     refine⟨k+1,by omega,by go_num,?_,HL2.o⟩
     intro x hx
     rw[List.take_succ_eq_append_getElem hlt] at hx
     rcases List.mem_append.1 hx with h1|h1
     ·exact HA.o x h1
     ·rw[List.mem_singleton.1 h1];exact HF.o
    case measure=>simp[intOf];omega
  ·obtain rfl:k=js.length:=by omega
   go_wp2
   go_ret
   refine⟨?_,HL.o⟩
   have e1:firstFree js now=none:=by
    unfold firstFree
    rw[List.findIdx?_eq_none_iff]
    intro x hx
    exact HA.o x (by simpa using hx)
   rw[e1]
   rfl
theorem cell_new (w:World) (v:Value) (t:TypeId):(w.alloc (.cells #[v] t)).cell? ⟨w.heap.size,0,none⟩=some v:=by
 unfold World.cell?
 rw[heap_new]
 rfl
end Go.Proofs.YtjkgligohegaeaaGreatDoor.Ls
namespace Go.Proofs.YtjkgligohegaeaaGreatDoor
section
variable {P:Program} {ops:Array Oper}
def headMask (n m:Nat):Array Bool:=(List.replicate n true++List.replicate (m-n) false).toArray
def tailOk (ops:Array Oper) (n:Nat):Bool :=
 decide (n < ops.size) && Region.sinkB .any ops n && Region.chainB .any ops n && Region.seqB .any ops (ops.size-n) n (headMask n ops.size)
variable {Q:Exit→Act→World→Prop} {G:Nat→Value→World→Prop} {R:World→World→Prop} {a:Act} {w0:World}
theorem Sofar.frameHead {vs:Nat→Value} {listed:Array Bool} {a':Act} {w':World} {n:Nat} (hok:relyOk ops=true) (h:Sofar ops G R a w0 vs listed a' w')
  (hin:∀ i,i < n→listed.getD i false=true) (hout:∀ i,n≤i→listed.getD i false=false) :
  a'=putsOn ops vs (List.range n) a:=by
 have ht:a'.tmps=(putsOn ops vs (List.range n) a).tmps:=by
  refine Array.ext_getElem? λt=>?_
  by_cases hw:∃ j,dstOf ops j=some t
  ·obtain⟨j,hj⟩:=hw
   have hjl:=lt_of_dst hj
   obtain⟨o,ho⟩:∃ o,ops[j]?=some o:=⟨_,Array.getElem?_eq_getElem hjl⟩
   have hd:o.dst=some t:=by unfold dstOf at hj;rw[ho] at hj;exact hj
   have hone:∀ k,dstOf ops k=some t→k=j:=λk hk=>(relyOk_at hok ho).2.2.2 t k hd hk
   by_cases hs:t < a.tmps.size
   ·by_cases hjn:j < n
    ·rw[h.done t j hs hj (hin j hjn),putsOn_at ops vs t j hj hone _ _ hs (List.mem_range.2 hjn)]
    ·rw[h.rest t (λk hk=>by rw[hone k hk];exact hout j (by omega)),putsOn_other ops vs t _ _ (λk hk e=>by
      have:=hone k e
      have:=List.mem_range.1 hk
      omega)]
   ·rw[Array.getElem?_eq_none (by rw[h.len];omega),Array.getElem?_eq_none (by rw[putsOn_size];omega)]
  ·have hw':∀ j,dstOf ops j≠some t:=λj e=>hw ⟨j,e⟩
   rw[h.rest t (λj e=>absurd e (hw' j)),putsOn_other ops vs t _ _ (λj _=>hw' j)]
 have hd:a'.defers=(putsOn ops vs (List.range n) a).defers:=by rw[h.defers,putsOn_defers]
 cases a'
 cases hq:putsOn ops vs (List.range n) a
 rw[hq] at ht hd
 simp_all
def left (ops:Array Oper) (listed:Array Bool):Nat:=((List.range ops.size).filter λi=>!listed.getD i false).length
theorem left_head {n:Nat} {listed:Array Bool} (hn:n≤ops.size) (hin:∀ i,i < n→listed.getD i false=true) (hout:∀ i,n≤i→listed.getD i false=false):left ops listed=ops.size-n:=by
 unfold left
 have e:ops.size=n+(ops.size-n):=by omega
 rw[e,List.range_add,List.filter_append,List.filter_eq_nil_iff.2 (by
  intro i hi
  simp[List.mem_range] at hi
  simp only[hin i hi]
  decide),List.filter_eq_self.2 (by
  intro i hi
  obtain⟨j,_,rfl⟩:=List.mem_map.1 hi
  simp only[hout (n+j) (by omega)]
  rfl)]
 simp
theorem left_set {listed:Array Bool} {i:Nat} (hi:i < ops.size) (hs:i < listed.size) (hl:listed.getD i false=false):left ops (listed.setIfInBounds i true)+1=left ops listed:=by
 have hset:∀ j d,(listed.setIfInBounds i true).getD j d=if i=j then true else listed.getD j d:=λj d=>getD_set listed i j hs d
 unfold left
 have key:∀ m,i < m→((List.range m).filter λj=>!(listed.setIfInBounds i true).getD j false).length+1=((List.range m).filter λj=>!listed.getD j false).length:=by
  intro m hm
  have e1:m=i+(1+(m-i-1)):=by omega
  rw[e1,List.range_add,List.range_add,List.map_append,List.filter_append,List.filter_append,List.filter_append,List.filter_append]
  have hlo:(List.range i).filter (λj=>!(listed.setIfInBounds i true).getD j false)=(List.range i).filter (λj=>!listed.getD j false):=by
   refine List.filter_congr λj hj=>?_
   rw[hset,if_neg (by have:=List.mem_range.1 hj;omega)]
  have hhi:(((List.range (m-i-1)).map (1+·)).map (i+·)).filter (λj=>!(listed.setIfInBounds i true).getD j false)=(((List.range (m-i-1)).map (1+·)).map (i+·)).filter (λj=>!listed.getD j false):=by
   refine List.filter_congr λj hj=>?_
   obtain⟨k,hk,rfl⟩:=List.mem_map.1 hj
   obtain⟨k',_,rfl⟩:=List.mem_map.1 hk
   rw[hset,if_neg (by omega)]
  have hme:((List.range 1).map (i+·))=[i]:=by simp
  rw[hlo,hhi,hme]
  simp only[List.filter_cons,List.filter_nil,hset,if_true,hl,List.length_append]
  simp
  omega
 exact key _ hi
theorem wpAny_rely_tail {l:List Oper} {n:Nat} (hl:l=ops.toList) (hok:relyOk ops=true) (htl:tailOk ops n=true) (htr:∀ w1 w2 w3,R w1 w2→R w2 w3→R w1 w3) (hst:∀ i v w1 w2,G i v w1→R w1 w2→G i v w2)
  (hdst:∀ j t,dstOf ops j=some t→t < a.tmps.size)
  (hob:Obl P ops G R a w0 0 (l.take n))
  (hend:∀ vs w',R w0 w'→Known G vs w' (List.range n)→wpList P ops Q (l.drop n) (putsOn ops vs (List.range n) a) w') :
  ∀ (fuel:Nat) (vs:Nat→Value) (listed:Array Bool) (a':Act) (w':World),Sofar ops G R a w0 vs listed a' w'→(∀ i,n≤i→listed.getD i false=false) →
   left ops listed=fuel→wpAny P .any ops Q fuel listed a' w':=by
 subst hl
 unfold tailOk at htl
 simp only[Bool.and_eq_true,decide_eq_true_eq] at htl
 obtain⟨⟨⟨hn,hsink⟩,hchain⟩,hseq⟩:=htl
 have fin:∀ (fuel:Nat) (vs:Nat→Value) (listed:Array Bool) (a':Act) (w':World),Sofar ops G R a w0 vs listed a' w'→(∀ i,n≤i→listed.getD i false=false)→left ops listed=fuel →
   (∀ i,i < n→listed.getD i false=true)→wpAny P .any ops Q fuel listed a' w':=by
  intro fuel vs listed a' w' h hout hf hin
  have hfe:=left_head (ops:=ops) (Nat.le_of_lt hn) hin hout
  have hm:listed=headMask n ops.size:=by
   refine Array.ext_getElem? λj=>?_
   have hsz:=h.size
   by_cases hj:j < ops.size
   ·have hmem:(headMask n ops.size)[j]?=some (decide (j < n)):=by
     unfold headMask
     simp only[List.getElem?_toArray]
     by_cases hjn:j < n
     ·rw[List.getElem?_append_left (by simpa using hjn),List.getElem?_replicate_of_lt hjn,decide_eq_true hjn]
     ·rw[List.getElem?_append_right (by simp;omega),List.length_replicate,List.getElem?_replicate_of_lt (by omega),decide_eq_false hjn]
    rw[hmem,Array.getElem?_eq_getElem (by omega)]
    have hg:listed.getD j false=listed[j]'(by omega):=by simp[Array.getD_eq_getD_getElem?,Array.getElem?_eq_getElem (show j < listed.size by omega)]
    by_cases hjn:j < n
    ·rw[←hg,hin j hjn,decide_eq_true hjn]
    ·rw[←hg,hout j (by omega),decide_eq_false hjn]
   ·rw[Array.getElem?_eq_none (by omega),Array.getElem?_eq_none (by
     unfold headMask
     simp
     omega)]
  have hk:Known G vs w' (List.range n):=Known.mem λj hj=>h.known j (by have:=List.mem_range.1 hj;omega) (hin j (List.mem_range.1 hj))
  rw[h.frameHead hok hin hout]
  have hdl:(ops.toList.drop n).length=ops.size-n:=by simp
  have:=wpAny_of_seq (P:=P) (md:=.any) (Q':=Q) (ops.toList.drop n) n listed (putsOn ops vs (List.range n) a) w' (λj=>by simp[List.getElem?_drop]) (by rw[hdl,hm];exact hseq) (hend vs w' h.rel hk)
  rw[hdl] at this
  rw[←hf,hfe]
  exact this
 intro fuel
 induction fuel with
 |zero =>
  intro vs listed a' w' h hout hf
  by_cases hin:∀ i,i < n→listed.getD i false=true
  ·exact fin 0 vs listed a' w' h hout hf hin
  ·exfalso
   have hr:Region.ready .any ops listed=[]:=by
    rw[List.eq_nil_iff_forall_not_mem]
    intro i hi
    obtain⟨o,ho,hl,_⟩:=ready_mem hi
    have hlt:i < ops.size:=(Array.getElem?_eq_some_iff.1 ho).1
    have:i∈(List.range ops.size).filter λi=>!listed.getD i false:=by
     rw[List.mem_filter]
     refine⟨List.mem_range.2 hlt,?_⟩
     simp only[Array.getD_eq_getD_getElem?,Array.getElem?_eq_getElem (show i < listed.size by rw[h.size];exact hlt),Option.getD_some] at hl⊢
     simp[hl]
    rw[List.eq_nil_of_length_eq_zero hf] at this
    cases this
   have:=ready_nil hok h.size hr n hn
   rw[hout n (Nat.le_refl _)] at this
   cases this
 |succ fuel ih =>
  intro vs listed a' w' h hout hf
  by_cases hin:∀ i,i < n→listed.getD i false=true
  ·exact fin _ vs listed a' w' h hout hf hin
  ·have hin':∃ i,i < n∧listed.getD i false=false:=by
    refine Classical.byContradiction λhc=>hin λi hi=>?_
    rcases hh:listed.getD i false with _|_
    ·exact absurd ⟨i,hi,hh⟩ hc
    ·rfl
   obtain⟨i0,hi0,hu0⟩:=hin'
   have inv:HeadInv .any ops n listed:=⟨h.size,λj oj hj hl e he hb=>h.closed j oj hj hl e.on (List.mem_filterMap.2 ⟨e,by simpa using he,by rw[if_pos hb]⟩),λt ht htl=>getD_in (by rw[h.size];exact htl) (hout t ht)⟩
   have hwait:=tail_waits hsink hchain hn inv _ i0 rfl hi0 (getD_in (by rw[h.size];omega) hu0)
   refine⟨λhr=>absurd (ready_nil hok h.size hr n hn) (by rw[hout n (Nat.le_refl _)];decide),λi hi=>?_⟩
   have hin2:i < n:=by
    rcases Nat.lt_or_ge i n with h'|h'
    ·exact h'
    ·exact absurd hi (hwait i h')
   obtain⟨o,ho,hl,hdeps⟩:=ready_mem hi
   have hlt:i < ops.size:=(Array.getElem?_eq_some_iff.1 ho).1
   have hl':listed.getD i false=false:=getD_both hl
   obtain⟨hpl,hdl,hlook,hone⟩:=relyOk_at hok ho
   have hk:Known G vs w' (depsOf o):=Known.mem λj hj=>h.known j (Nat.lt_trans (hdl j hj) hlt) (hdeps j hj)
   have hob':=hob.at_ i o (by rw[List.getElem?_take_of_lt hin2,Array.getElem?_toList];exact ho) vs w' h.rel hk
   rw[Nat.zero_add] at hob'
   have hsame:∀ t∈o.looksAt ops,a'.tmps[t]?=(putsOn ops vs (depsOf o) a).tmps[t]?:=by
    intro t ht
    rcases hlook t ht with ⟨j,hj,hd⟩|hbehind
    ·have hs:=hdst j t hd
     have hjl:=lt_of_dst hd
     obtain⟨oj,hoj⟩:∃ oj,ops[j]?=some oj:=⟨_,Array.getElem?_eq_getElem hjl⟩
     have hdj:oj.dst=some t:=by have:=hd;unfold dstOf at this;rw[hoj] at this;exact this
     rw[h.done t j hs hd (hdeps j hj),putsOn_at ops vs t j hd (λk hk=>(relyOk_at hok hoj).2.2.2 t k hdj hk) _ _ hs hj]
    ·rw[h.rest t (λk hk=>?_),putsOn_other ops vs t _ _ (λk hk e=>?_)]
     ·obtain⟨p,hp,hip⟩:=hbehind k e
      have:=(relyOk_at hok hp).2.1 i hip
      have:=hdl k hk
      omega
     ·rcases hkl:listed.getD k false with _|_
      ·rfl
      ·obtain⟨p,hp,hip⟩:=hbehind k hk
       have:=h.closed k p hp hkl i hip
       rw[hl'] at this
       cases this
   rw[←putsOn_defers ops vs (depsOf o) a] at hob'
   refine one_op ho hob' (λd hd=>by rw[putsOn_size];exact hdst i d (by unfold dstOf;rw[ho];exact hd)) hpl
    (λx hx=>eval_same x λt e=>hsame t (looks_operand (by rw[←e];exact hx))) (wanted_same hsame) ?_
   rintro v w'' ⟨hR,hG⟩
   have hset:∀ j d,(listed.setIfInBounds i true).getD j d=if i=j then true else listed.getD j d:=λj d=>getD_set listed i j (by rw[h.size];exact hlt) d
   have hdo:dstOf ops i=o.dst:=by unfold dstOf;rw[ho];rfl
   refine ih (λj=>if j=i then (match o.dst with|some _=>v|none=>undef) else vs j) _ _ _ ?_ ?_ ?_
   ·refine⟨by simp[h.size],?_,htr _ _ _ h.rel hR,?_,by rw[put_size];exact h.len,by rw[put_defers];exact h.defers,?_,?_⟩
    ·intro k p hp hkl j hj
     rw[hset] at hkl⊢
     by_cases hij:i=j
     ·rw[if_pos hij]
     ·rw[if_neg hij]
      by_cases hik:i=k
      ·subst hik
       rw[ho] at hp
       cases hp
       exact hdeps j hj
      ·rw[if_neg hik] at hkl
       exact h.closed k p hp hkl j hj
    ·intro j hjl hl2
     by_cases hij:j=i
     ·subst hij
      simp only[if_true]
      exact hG
     ·simp only[if_neg hij]
      rw[hset,if_neg (Ne.symm hij)] at hl2
      exact hst _ _ _ _ (h.known j hjl hl2) hR
    ·intro t j hs hd hl2
     rw[put_get]
     by_cases hij:j=i
     ·subst hij
      rw[hdo] at hd
      rw[if_pos ⟨hd,by rw[h.len];exact hs⟩]
      simp[hd]
     ·rw[hset,if_neg (Ne.symm hij)] at hl2
      rw[if_neg,if_neg hij,h.done t j hs hd hl2]
      rintro ⟨hd2,_⟩
      exact hij (hone t j hd2 hd)
    ·intro t hn
     rw[put_get,if_neg]
     ·refine h.rest t λj hd=>?_
      have:=hn j hd
      rw[hset] at this
      split at this
      ·cases this
      ·exact this
     ·rintro ⟨hd2,_⟩
      have:=hn i (by rw[hdo];exact hd2)
      rw[hset,if_pos rfl] at this
      cases this
   ·intro j hj
    rw[hset,if_neg (by omega)]
    exact hout j hj
   ·have:=left_set (ops:=ops) hlt (by rw[h.size];exact hlt) hl'
    omega
theorem wp_region_rely_tail {id:Nat} {l:List Oper} {w:World} (k:Nat) (hm:P.follows .mixedOrders=true) (hok:relyOk l.toArray=true) (htl:tailOk l.toArray k=true)
  (G:Nat→Value→World→Prop) (R:World→World→Prop) (hrefl:R w.drew w.drew) (htr:∀ w1 w2 w3,R w1 w2→R w2 w3→R w1 w3) (hst:∀ i v w1 w2,G i v w1→R w1 w2→G i v w2)
  {n:Nat} (hdst':dstOk l.toArray n=true) (hn:a.tmps.size=n)
  (hob:Obl P l.toArray G R a w.drew 0 (l.take k))
  (hend:∀ vs w',R w.drew w'→Known G vs w' (List.range k)→wpList P l.toArray Q (l.drop k) (putsOn l.toArray vs (List.range k) a) w'):(Code.region id l.toArray true).wp P Q a w:=by
 have hdst:∀ j t,dstOf l.toArray j=some t→t < a.tmps.size:=by rw[hn];exact dstOk_at hdst'
 have h0:∀ i,(Array.replicate l.toArray.size false).getD i false=false:=by
  intro i
  simp only[Array.getD_eq_getD_getElem?,Array.getElem?_replicate]
  split<;>rfl
 refine wp_region_any hm ?_
 refine wpAny_rely_tail (l:=l) (n:=k) (w0:=w.drew) (by simp) hok htl htr hst hdst hob hend _ (λ_=>undef) _ _ _ ?_ (λi _=>h0 i) ?_
 ·exact⟨by simp,λi o _ h=>(by rw[h0] at h;cases h),hrefl,λj _ h=>(by rw[h0] at h;cases h),rfl,rfl,λt j _ _ h=>(by rw[h0] at h;cases h),λ_ _=>rfl⟩
 ·have:=left_head (ops:=l.toArray) (n:=0) (listed:=Array.replicate l.toArray.size false) (Nat.zero_le _) (λi hi=>absurd hi (by omega)) (λi _=>h0 i)
  simpa using this
end
end Go.Proofs.YtjkgligohegaeaaGreatDoor
namespace Go.Proofs.YtjkgligohegaeaaGreatDoor.Ls
open Go.RowKit
theorem Kept.drewN (w:World) (n p B:Nat):Kept w (w.drewN n) p B:=⟨rfl,rfl,rfl,Nat.le_refl _,λ_ _ _ _=>rfl⟩
def Job.part (j:Job) (t:Times) (L now:Nat) (a b:Bool):Job:={ j with lease:=if a then L else j.lease,deadline:=if b then now+t.lease else j.deadline }
def Mid (w0:World) (p B:Nat) (js:List Job) (t:Times) (L now i:Nat) (j:Job) (a b:Bool) (w:World):Prop:=Kept w0 w p B∧TabAt w p B (js.set i (j.part t L now a b)) t L
def MidR (w0:World) (p B:Nat) (js:List Job) (t:Times) (L now i:Nat) (j:Job) (w1 w2:World):Prop :=
 ∀ a b,Mid w0 p B js t L now i j a b w1→∃ a' b',(a=true→a'=true)∧(b=true→b'=true)∧Mid w0 p B js t L now i j a' b' w2
theorem MidR.refl (w0:World) (p B:Nat) (js:List Job) (t:Times) (L now i:Nat) (j:Job) (w:World):MidR w0 p B js t L now i j w w:=λa b h=>⟨a,b,id,id,h⟩
theorem MidR.trans {w0:World} {p B:Nat} {js:List Job} {t:Times} {L now i:Nat} {j:Job} {w1 w2 w3:World} (h:MidR w0 p B js t L now i j w1 w2) (k:MidR w0 p B js t L now i j w2 w3):MidR w0 p B js t L now i j w1 w3:=λa b m=>by
 obtain⟨a1,b1,ha,hb,m1⟩:=h a b m
 obtain⟨a2,b2,ha2,hb2,m2⟩:=k a1 b1 m1
 exact⟨a2,b2,λx=>ha2 (ha x),λx=>hb2 (hb x),m2⟩
section
variable {w0 w:World} {p B:Nat} {js:List Job} {t:Times} {L now i:Nat} {j:Job} {a b:Bool}
theorem Mid.get (h:Mid w0 p B js t L now i j a b w) (hi:i < js.length) (k:Nat) (hk:k < 5):w.cell? ⟨B,i*5+k,none⟩=(j.part t L now a b).cells[k]?:=by
 have:=h.2.cellBody i (by simpa using hi) k hk
 simpa using this
theorem Mid.one (h:Mid w0 p B js t L now i j a b w) (hi:i < js.length) (hL:L < 18446744073709551616):Mid w0 p B js t L now i j true b (w.setCell ⟨B,i*5+1,none⟩ (.int .u64 L)):=by
 refine⟨h.1.trans (Kept.setCell _ _ _ _ _ (.inr rfl)),?_⟩
 have hf:=h.2.fits (j.part t L now a b) (List.mem_iff_getElem.2 ⟨i,by simpa using hi,by simp⟩)
 have:=h.2.setJob i (by simpa using hi) 1 (by omega) (j.part t L now true b) (.int .u64 L) (by simp[Job.cells,Job.part]) ⟨by simpa [Job.part] using hL,by simpa [Job.part] using hf.deadline,by simpa [Job.part] using hf.tries,by simpa [Job.part] using hf.ready⟩
 simpa only[List.set_set] using this
theorem Mid.two (h:Mid w0 p B js t L now i j a b w) (hi:i < js.length) (hD:now+t.lease < 18446744073709551616):Mid w0 p B js t L now i j a true (w.setCell ⟨B,i*5+2,none⟩ (.int .u64 (now+t.lease:Nat))):=by
 refine⟨h.1.trans (Kept.setCell _ _ _ _ _ (.inr rfl)),?_⟩
 have hf:=h.2.fits (j.part t L now a b) (List.mem_iff_getElem.2 ⟨i,by simpa using hi,by simp⟩)
 have:=h.2.setJob i (by simpa using hi) 2 (by omega) (j.part t L now a true) (.int .u64 (now+t.lease:Nat)) (by simp[Job.cells,Job.part]) ⟨by simpa [Job.part] using hf.lease,by simpa [Job.part] using hD,by simpa [Job.part] using hf.tries,by simpa [Job.part] using hf.ready⟩
 simpa only[List.set_set] using this
theorem Mid.three (h:Mid w0 p B js t L now i j true true w) (hi:i < js.length) (m:Nat) (hm:m≤64):Kept w0 (w.setCell ⟨B,i*5+3,none⟩ (.int .i64 m)) p B∧TabAt (w.setCell ⟨B,i*5+3,none⟩ (.int .i64 m)) p B (js.set i { j with lease:=L,deadline:=now+t.lease,tries:=m }) t L:=by
 refine⟨h.1.trans (Kept.setCell _ _ _ _ _ (.inr rfl)),?_⟩
 have hf:=h.2.fits (j.part t L now true true) (List.mem_iff_getElem.2 ⟨i,by simpa using hi,by simp⟩)
 have:=h.2.setJob i (by simpa using hi) 3 (by omega) { j with lease:=L,deadline:=now+t.lease,tries:=m } (.int .i64 m) (by simp[Job.cells,Job.part]) ⟨hf.lease,hf.deadline,hm,hf.ready⟩
 simpa only[List.set_set] using this
end
def MidA (w0:World) (p B:Nat) (js:List Job) (t:Times) (L now i:Nat) (j:Job) (w:World):Prop:=∃ b',Mid w0 p B js t L now i j true b' w
def nextV (p B i last now D c m:Nat) (tl:Nat) (k:Nat):Value:=match k with
 |0|1|2|14|15|20|23|26=>.pointer (some ⟨B,i*5,none⟩)
 |3|4|8|9=>.pointer (some ⟨p,0,none⟩)
 |5=>.pointer (some ⟨p,4,none⟩)
 |6=>.int .u64 (last+1:Int)
 |7=>.int .u64 now
 |10|11=>.pointer (some ⟨p,1,none⟩)
 |12=>.int .u64 tl
 |13=>.int .u64 D
 |16|27=>.pointer (some ⟨B,i*5+3,none⟩)
 |17=>.int .i64 c
 |18=>.int .i64 (c+1:Int)
 |19=>.int .i64 m
 |21=>.pointer (some ⟨B,i*5+1,none⟩)
 |24=>.pointer (some ⟨B,i*5+2,none⟩)
 |_=>undef
def NextG (w0:World) (p B:Nat) (js:List Job) (t:Times) (last now i:Nat) (j:Job) (D c m:Nat) (k:Nat) (v:Value) (w:World):Prop:=match k with
 |22=>MidA w0 p B js t (last+1) now i j w
 |25=>Hd (Mid w0 p B js t (last+1) now i j true true w)
 |k=>v=nextV p B i last now D c m t.lease k
theorem NextG.stable {w0:World} {p B:Nat} {js:List Job} {t:Times} {last now i:Nat} {j:Job} {D c m:Nat} (k:Nat) (v:Value) (w1 w2:World) (h:NextG w0 p B js t last now i j D c m k v w1) (hR:MidR w0 p B js t (last+1) now i j w1 w2):NextG w0 p B js t last now i j D c m k v w2:=by
 unfold NextG at h⊢
 split at h
 ·obtain⟨b,h⟩:=h
  obtain⟨a',b',ha,hb,h2⟩:=hR _ _ h
  rw[ha rfl] at h2
  exact⟨b',h2⟩
 ·obtain⟨a',b',ha,hb,h2⟩:=hR _ _ h.o
  rw[ha rfl,hb rfl] at h2
  exact⟨h2⟩
 ·exact h
theorem minI (a c:Nat) (h:c=min (a+1) 64) (ts:Array TypeId) (t:TypeId) (w:World) :
  (Builtin.min_ ts t #[.int .i64 ((a:Int)+1),.int .i64 64]).run Tryz.prog w=.ok (.int .i64 (c:Int)) w:=by
 rw[run_min_int2]
 congr 2
 subst h
 split<;>omega
theorem next_some (p B:Nat) (js:List Job) (t:Times) (last now i:Nat) (w:World) (h:TabAt w p B js t last) (hn:now≤1099511627776) (hl:last < 18446744073709551615) (hf:firstFree js now=some i) (hi:i < js.length) :
  Calls Tryz.prog 64 #[.pointer (some ⟨p,0,none⟩),.int .u64 now] w λe w'=>e=.returned (.tuple #[.int .i64 i,.int .u64 (last+1),.bool true])∧Kept w w' p B∧TabAt w' p B (js.set i { js[i] with lease:=last+1,deadline:=now+t.lease,tries:=min (js[i].tries+1) 64 }) t (last+1):=by
 have hlt:=h.lt
 have c0:w.cell? ⟨p,0,none⟩=some (.slice (some ⟨B,0,none⟩) js.length js.length):=h.cellHead 0 (by omega)
 have c4:w.cell? ⟨p,4,none⟩=some (.int .u64 last):=h.cellHead 4 (by omega)
 have hne:¬w.heap.size=p:=by omega
 have hne2:¬p=w.heap.size:=by omega
 have h1:¬(1099511627776:Int) < (now:Int):=by omega
 have h2:((last:Int) == 18446744073709551615)=false:=beq_eq_false_iff_ne.2 (by omega)
 have H:=Hm h
 have HF:=Hm hf
 have HN:=Hm (And.intro hn hl)
 clear h hn hl hf
 go_enter Tryz.func64,Tryz.ntmps64
 go_wp2_with fail
 have hb1:Below w.heap.size w (w.alloc (.cells #[.int .u64 now] 22)):=(Below.refl _ _).alloc (Nat.le_refl _) _
 have hy:=index_any p B js t last now w.heap.size _ (H.o.old hb1) (cell_new w (.int .u64 now) 22)
 rw[HF.o] at hy
 have HB:=Hm hb1
 clear hb1
 refine hy.mono ?_
 clear hy
 rintro e w2 ⟨rfl,hb2⟩
 have hcn:w2.cell? ⟨w.heap.size,0,none⟩=some (.int .u64 now):=(hb2.cell (p:=⟨w.heap.size,0,none⟩) (by simp)).trans (cell_new w (.int .u64 now) 22)
 have HB2:Hd (Below w.heap.size w w2):=⟨HB.o.trans (hb2.mono HB.o.size)⟩
 have H2:Hd (TabAt w2 p B js t last):=⟨H.o.old HB2.o⟩
 clear hb2 c0 c4
 have c0:w2.cell? ⟨p,0,none⟩=some (.slice (some ⟨B,0,none⟩) js.length js.length):=H2.o.cellHead 0 (by omega)
 have c4:w2.cell? ⟨p,4,none⟩=some (.int .u64 last):=H2.o.cellHead 4 (by omega)
 have f4:=H2.o.freeHead 4
 have hwr:IntKind.u64.wrap ((last:Int)+1)=((last+1:Nat):Int):=by rw[show ((last:Int)+1)=((last+1:Nat):Int) from by omega];exact wrapU _ (by have:=HN.o.2;omega)
 have hneB:=H.o.ne
 rw[show firstV (some i)=(i:Int) from rfl]
 have hT:TabAt (w2.setCell ⟨p,4,none⟩ (.int .u64 (last+1:Nat))) p B js t (last+1):=H2.o.setLast (last+1) (by have:=HN.o.2;omega)
 have hKp:Kept w2 (w2.setCell ⟨p,4,none⟩ (.int .u64 (last+1:Nat))) p B:=Kept.setCell _ _ _ _ _ (.inl rfl)
 go_wp2_with fail
 obtain⟨w3,hw3⟩:∃ w3,w3=w2.setCell ⟨p,4,none⟩ (.int .u64 (last+1:Int)):=⟨_,rfl⟩
 rw[←hw3]
 have e3:w2.setCell ⟨p,4,none⟩ (.int .u64 (last+1:Nat))=w3:=by rw[hw3];rfl
 rw[e3] at hT hKp
 have HT:=Hm hT
 have HK:=Hm hKp
 have hM0:Mid w3 p B js t (last+1) now i js[i] false false w3.drew:=⟨Kept.drew _ _ _,by
  have e:js[i].part t (last+1) now false false=js[i]:=rfl
  rw[e,List.set_getElem_self]
  exact(HT.o.drewN 1)⟩
 have HM0:=Hm hM0
 have hcn3:w3.cell? ⟨w.heap.size,0,none⟩=some (.int .u64 now):=by
  unfold World.cell? at hcn⊢
  rw[HK.o.block w.heap.size ?_ hne (by omega)]
  ·exact hcn
  ·have:=HB2.o.size
   have:=World.block_lt_of_cell? w2 ⟨w.heap.size,0,none⟩ hcn
   exact this
 have HCN:=Hm hcn3
 clear hT hKp hM0 hcn3 hw3 e3 hcn c0 c4 f4 hwr
 obtain⟨b,hb⟩:∃ b,b=w.heap.size:=⟨_,rfl⟩
 rw[←hb] at HCN⊢
 have HBB:=Hm hb
 clear hb
 obtain⟨D,hD⟩:∃ D,D=now+t.lease:=⟨_,rfl⟩
 have hDb:D≤2199023255552:=by have:=HT.o.tl;have:=HN.o.1;omega
 have hsum:IntKind.u64.wrap ((now:Int)+(t.lease:Int))=(D:Int):=by rw[show ((now:Int)+(t.lease:Int))=(D:Int) from by omega];exact wrapU _ (by omega)
 obtain⟨c,hc⟩:∃ c,c=js[i].tries:=⟨_,rfl⟩
 have hcb:c≤64:=by rw[hc];exact(HT.o.fits _ (List.getElem_mem hi)).tries
 obtain⟨m,hm⟩:∃ m,m=min (c+1) 64:=⟨_,rfl⟩
 have HMM:=Hm (And.intro hm (And.intro hc (And.intro hD (And.intro hsum (And.intro hDb (And.intro hcb hi))))))
 clear hm hc hD hsum hDb hcb
 refine wp_region_rely_tail 28 (by kernel_rfl) (by kernel_rfl) (by kernel_rfl) (NextG w3 p B js t last now i js[i] D c m)
  (MidR w3 p B js t (last+1) now i js[i]) (MidR.refl _ _ _ _ _ _ _ _ _ _) (λw1 w2 w3 h1 h2=>h1.trans h2) NextG.stable (n:=74) (by kernel_rfl) rfl ?_ ?_
 ·simp only[Obl,List.take_succ_cons,List.take_zero]
  refine⟨?_,?_,?_,?_,?_,?_,?_,?_,?_,?_,?_,?_,?_,?_,?_,?_,?_,?_,?_,?_,?_,?_,?_,?_,?_,?_,?_,?_,trivial⟩
  all_goals
   intro vs w' hR hK
   simp[depsOf,Region.binds,putsOn,dstOf,Act.put,Known,seen,NextG,nextV] at hK⊢
  case refine_7 =>
   obtain⟨a1,b1,-,-,hM⟩:=hR _ _ HM0.o
   have c4:w'.cell? ⟨p,4,none⟩=some (.int .u64 (last+1:Int)):=hM.2.cellHead 4 (by omega)
   clear hM
   go_wp2
   exact⟨rfl,rfl,MidR.refl _ _ _ _ _ _ _ _ _ _,rfl⟩
  case refine_8 =>
   obtain⟨a1,b1,-,-,hM⟩:=hR _ _ HM0.o
   have cb:w'.cell? ⟨b,0,none⟩=some (.int .u64 now):=by
    have h:=HCN.o
    unfold World.cell? at h⊢
    have e:=HBB.o
    rw[hM.1.block b (World.block_lt_of_cell? w3 ⟨b,0,none⟩ HCN.o) (by omega) (by omega)]
    exact h
   clear hM
   go_wp2
   exact⟨rfl,rfl,MidR.refl _ _ _ _ _ _ _ _ _ _,rfl⟩
  case refine_13 =>
   obtain⟨a1,b1,-,-,hM⟩:=hR _ _ HM0.o
   have c1:w'.cell? ⟨p,1,none⟩=some (.int .u64 t.lease):=hM.2.cellHead 1 (by omega)
   clear hM
   go_wp2
   exact⟨rfl,rfl,MidR.refl _ _ _ _ _ _ _ _ _ _,rfl⟩
  case refine_14 =>
   have hsum:=HMM.o.2.2.2.1
   go_wp2
   exact⟨rfl,rfl,MidR.refl _ _ _ _ _ _ _ _ _ _,rfl⟩
  case refine_18 =>
   obtain⟨a1,b1,-,-,hM⟩:=hR _ _ HM0.o
   have c3:w'.cell? ⟨B,i*5+3,none⟩=some (.int .i64 c):=by rw[hM.get hi 3 (by omega),HMM.o.2.1];rfl
   clear hM
   go_wp2
   exact⟨rfl,rfl,MidR.refl _ _ _ _ _ _ _ _ _ _,rfl⟩
  case refine_19 =>
   have hcb:=HMM.o.2.2.2.2.2.1
   go_wp2
   exact⟨rfl,rfl,MidR.refl _ _ _ _ _ _ _ _ _ _,rfl⟩
  case refine_20 =>
   have hmin:=minI c m HMM.o.1
   go_wp2
   exact⟨rfl,rfl,MidR.refl _ _ _ _ _ _ _ _ _ _,rfl⟩
  case refine_23 =>
   obtain⟨a1,b1,-,-,hM⟩:=hR _ _ HM0.o
   have c1:w'.cell? ⟨B,i*5+1,none⟩=some (.int .u64 (js[i].part t (last+1) now a1 b1).lease):=hM.get hi 1 (by omega)
   have f1:=hM.2.freeBody (i*5+1)
   have HM:=Hm hM
   clear hM
   go_wp2
   exact⟨rfl,rfl,λa b h=>⟨true,b,λ_=>rfl,id,h.one hi (by have:=HN.o.2;omega)⟩,⟨b1,HM.o.one hi (by have:=HN.o.2;omega)⟩⟩
  case refine_26 =>
   obtain⟨b1,hM⟩:MidA w3 p B js t (last+1) now i js[i] w':=by simp only[hK]
   have c1:w'.cell? ⟨B,i*5+2,none⟩=some (.int .u64 (js[i].part t (last+1) now true b1).deadline):=hM.get hi 2 (by omega)
   have f1:=hM.2.freeBody (i*5+2)
   have HM:=Hm hM
   have hD:=HMM.o.2.2.1
   have hDb:=HMM.o.2.2.2.2.1
   subst hD
   clear hM
   go_wp2
   exact⟨rfl,rfl,λa b h=>⟨a,true,id,λ_=>rfl,h.two hi (by omega)⟩,⟨HM.o.two hi (by omega)⟩⟩
  all_goals
   go_wp2
   exact⟨rfl,rfl,MidR.refl _ _ _ _ _ _ _ _ _ _,rfl⟩
 ·intro vs w' hR hK
  simp[Known,List.range,List.range.loop,NextG,nextV] at hK
  simp[putsOn,dstOf,Act.put,List.range,List.range.loop]
  obtain⟨hM⟩:Hd (Mid w3 p B js t (last+1) now i js[i] true true w'):=by simp only[hK]
  obtain⟨h19,h27⟩:vs 19=.int .i64 m∧vs 27=.pointer (some ⟨B,i*5+3,none⟩):=by simp only[hK,and_self]
  clear hK hR
  have c3:w'.cell? ⟨B,i*5+3,none⟩=some (.int .i64 js[i].tries):=hM.get hi 3 (by omega)
  have f3:=hM.2.freeBody (i*5+3)
  have hM3:=hM.three hi m (by have:=HMM.o.1;omega)
  have HM:=Hm hM
  have HM3:=Hm hM3
  have c4:w'.cell? ⟨p,4,none⟩=some (.int .u64 (last+1:Int)):=hM.2.cellHead 4 (by omega)
  clear hM hM3
  go_wp2_with fail
  go_quiet (fail)
  go_wp2
  go_ret3
  refine⟨rfl,((((Kept.of_below HB2.o).trans HK.o).trans HM3.o.1).trans (Kept.drewN _ nq p B)),?_⟩
  have e1:m=min (js[i].tries+1) 64:=by rw[HMM.o.1,HMM.o.2.1]
  rw[←e1]
  exact HM3.o.2.drewN nq
end Go.Proofs.YtjkgligohegaeaaGreatDoor.Ls
