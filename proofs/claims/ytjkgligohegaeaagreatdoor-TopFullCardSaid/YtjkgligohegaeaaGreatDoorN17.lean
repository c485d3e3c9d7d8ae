/- Lemmas of the row. -/
import Derived.Test.YtjkgligohegaeaaGreatDoorN15
import Derived.Test.YtjkgligohegaeaaGreatDoorN16
set_option linter.all false
set_option maxRecDepth 20000
set_option maxHeartbeats 12800000
namespace Go.Proofs.YtjkgligohegaeaaGreatDoor.Ls
open Go.RowKit
def Job.due (j:Job) (now:Nat):Bool:=j.lease != 0 && decide (j.deadline≤now)
def Job.aged (j:Job) (t:Times) (now:Nat):Job:=if j.due now then j.over t now else j
def agedTo (js:List Job) (t:Times) (now k:Nat):List Job:=(js.take k).map (·.aged t now)++js.drop k
def dueTo (js:List Job) (now k:Nat):List Nat:=(List.range k).filter λi=>match js[i]? with|some j=>j.due now|none=>false
theorem agedTo_length (js:List Job) (t:Times) (now k:Nat) (h:k≤js.length):(agedTo js t now k).length=js.length:=by
 simp[agedTo];omega
theorem agedTo_get (js:List Job) (t:Times) (now k:Nat) (h:k < js.length):(agedTo js t now k)[k]'(by rw[agedTo_length _ _ _ _ (by omega)];exact h)=js[k]:=by
 simp only[agedTo]
 rw[List.getElem_append_right (by simp;omega)]
 simp
 congr 1
 omega
theorem agedTo_succ (js:List Job) (t:Times) (now k:Nat) (h:k < js.length):agedTo js t now (k+1)=(agedTo js t now k).set k (js[k].aged t now):=by
 simp only[agedTo]
 rw[List.take_succ_eq_append_getElem h,List.set_append_right _ _ (by simp;omega)]
 have e:k-((js.take k).map (·.aged t now)).length=0:=by simp;omega
 rw[e,List.drop_eq_getElem_cons h]
 simp only[List.map_append,List.map_cons,List.map_nil,List.append_assoc,List.set_cons_zero,List.cons_append,List.nil_append]
theorem agedTo_keep (js:List Job) (t:Times) (now k:Nat) (h:k < js.length) (hd:js[k].due now=false):agedTo js t now (k+1)=agedTo js t now k:=by
 rw[agedTo_succ js t now k h]
 have e:js[k].aged t now=(agedTo js t now k)[k]'(by rw[agedTo_length _ _ _ _ (by omega)];exact h):=by rw[agedTo_get js t now k h];simp[Job.aged,hd]
 rw[e,List.set_getElem_self]
theorem dueTo_succ (js:List Job) (now k:Nat) (h:k < js.length):dueTo js now (k+1)=dueTo js now k++if js[k].due now then [k] else []:=by
 simp only[dueTo,List.range_succ,List.filter_append]
 congr 1
 simp[List.filter_cons,h]
theorem dueTo_le (js:List Job) (now k:Nat):(dueTo js now k).length≤k:=by
 have:=List.length_filter_le (λi=>match js[i]? with|some j=>j.due now|none=>false) (List.range k)
 simpa [dueTo] using this
def idxV (l:List Nat):List Value:=l.map λ(i:Nat)=>Value.int .i64 (i:Int)
theorem own_kept {w1 w2:World} {p B base n size:Nat} {e:TypeId} {v:Value} {xs:List Value} (h:w1.ownsRow base e size v n xs) (k:Kept w1 w2 p B) (hp:p < base) (hB:B < base):w2.ownsRow base e size v n xs:=by
 refine⟨h.1,h.2.imp id ?_⟩
 rintro ⟨g,cap,cur,e,hb,hh,rest⟩
 exact⟨g,cap,cur,e,hb,by rw[k.block g (Array.getElem?_eq_some_iff.1 hh).1 (by omega) (by omega)];exact hh,rest⟩
theorem Kept.grown {w w1 w2:World} {p B:Nat} {row:Option Nat} (h:Kept w w1 p B) (k:w1.grownBy w2 row) (hr:∀ r,row=some r→w.heap.size≤r):Kept w w2 p B :=
 ⟨k.os.trans h.os,k.tape.trans h.tape,k.output.trans h.output,Nat.le_trans h.size k.size,λb hb h1 h2 =>
  (k.block b (Nat.lt_of_lt_of_le hb h.size) (λe=>by have:=hr b e.symm;omega)).trans (h.block b hb h1 h2)⟩
theorem TabAt.grown {w w':World} {p B:Nat} {js:List Job} {t:Times} {last:Nat} {row:Option Nat} (h:TabAt w p B js t last) (k:w.grownBy w' row) (h1:some p≠row) (h2:some B≠row):TabAt w' p B js t last :=
 { h with head:=by rw[k.block p h.lt.1 h1];exact h.head,body:=by rw[k.block B h.lt.2 h2];exact h.body }
theorem infoInt:(Tryz.prog.info? 3).map (λi=>(i.zero,i.size,i.bytes))=some (some (.int .i64 0),1,8):=by kernel_rfl
def ExpR (w:World) (p B:Nat) (js:List Job) (t:Times) (last now:Nat) (v:Value) (k:Nat) (wr:World):Prop :=
 wr.ownsRow w.heap.size 3 1 v (dueTo js now k).length (idxV (dueTo js now k))∧Kept w wr p B∧TabAt wr p B (agedTo js t now k) t last
section
variable {w wr wz:World} {p B:Nat} {js:List Job} {t:Times} {last now:Nat} {v:Value} {k:Nat}
theorem ExpR.below (h:ExpR w p B js t last now v k wr) (hb:Below wr.heap.size wr wz):ExpR w p B js t last now v k wz :=
 ⟨h.1.kept (row:=none) ⟨hb.os,hb.tape,hb.output,hb.size,λk hk _=>hb.block k hk⟩ (by cases v.ownBlock<;>simp),h.2.1.trans (Kept.of_below hb),h.2.2.old hb⟩
theorem ExpR.keep (h:ExpR w p B js t last now v k wr) (hlt:k < js.length) (hd:js[k].due now=false):ExpR w p B js t last now v (k+1) wr:=by
 refine⟨?_,h.2.1,?_⟩
 ·rw[dueTo_succ js now k hlt,hd,if_neg (by simp),List.append_nil];exact h.1
 ·rw[agedTo_keep js t now k hlt hd];exact h.2.2
theorem ExpR.turn {w2 w3:World} {v':Value} {row:Option Nat} (h:ExpR w p B js t last now v k wr) (hlt:k < js.length) (hd:js[k].due now=true) (hp:p < w.heap.size) (hB:B < w.heap.size)
  (hk:Kept wr w2 p B) (ht:TabAt w2 p B ((agedTo js t now k).set k (js[k].over t now)) t last)
  (hown:w3.ownsRow w.heap.size 3 1 v' ((dueTo js now k).length+1) (idxV (dueTo js now k)++[.int .i64 k])) (hg:w2.grownBy w3 row) (hr:∀ r,row=some r→w.heap.size≤r):ExpR w p B js t last now v' (k+1) w3:=by
 refine⟨?_,(h.2.1.trans hk).grown hg hr,?_⟩
 ·rw[dueTo_succ js now k hlt,hd,if_pos rfl]
  simpa [idxV] using hown
 ·rw[agedTo_succ js t now k hlt]
  have e:js[k].aged t now=js[k].over t now:=by simp[Job.aged,hd]
  rw[e]
  exact ht.grown hg (λe=>by have:=hr p e.symm;omega) (λe=>by have:=hr B e.symm;omega)
end
theorem expire_in (p B:Nat) (js:List Job) (t:Times) (last now:Nat) (w:World) (h:TabAt w p B js t last) (hn:now≤1099511627776) :
  Calls Tryz.prog 63 #[.pointer (some ⟨p,0,none⟩),.int .u64 now] w λe w'=>Kept w w' p B∧TabAt w' p B (agedTo js t now js.length) t last ∧
   ∃ v,e=.returned v∧w'.ownsRow w.heap.size 3 1 v (dueTo js now js.length).length (idxV (dueTo js now js.length)):=by
 have c0:w.cell? ⟨p,0,none⟩=some (.slice (some ⟨B,0,none⟩) js.length js.length):=h.cellHead 0 (by omega)
 have hlt:=h.lt
 have hsm:=h.small
 have hn':¬(1099511627776:Int) < (now:Int):=by omega
 obtain⟨i0,hi,hz0,hz1,hz2⟩:=info_parts infoInt
 have HI:=Hm (And.intro hi (And.intro hz0 (And.intro hz1 hz2)))
 have H:=Hm h
 have HN:=Hm (And.intro hn hlt)
 clear h hn hi hz0 hz1 hz2 hlt
 go_enter Tryz.func63,Tryz.ntmps63
 go_wp2_with fail
 go_loopw [5,19] (λv i wr=>∃ k:Nat,k≤js.length∧i=.int .i64 k∧ExpR w p B js t last now v k wr) (λ_ i _=>js.length-(intOf i).toNat)
 case atStart=>exact⟨0,Nat.zero_le _,rfl,World.ownsRow_nil w w.heap.size 3 1,Kept.refl _ _ _,(by rw[show agedTo js t now 0=js from rfl];exact H.o)⟩
 case round =>
  obtain⟨k,hk,rfl,hE⟩:=hrel
  have HE:=Hm hE
  clear hE
  have hlen:=agedTo_length js t now k hk
  by_cases hlt:k < js.length
  ·have hk':k < (agedTo js t now k).length:=by omega
   have hgk:=agedTo_get js t now k hlt
   have d0:wr.cell? ⟨B,k*5,none⟩=some (.bool js[k].done):=by rw[←hgk];exact HE.o.2.2.cellBody k hk' 0 (by omega)
   have d1:wr.cell? ⟨B,k*5+1,none⟩=some (.int .u64 js[k].lease):=by rw[←hgk];exact HE.o.2.2.cellBody k hk' 1 (by omega)
   have d2:wr.cell? ⟨B,k*5+2,none⟩=some (.int .u64 js[k].deadline):=by rw[←hgk];exact HE.o.2.2.cellBody k hk' 2 (by omega)
   have d3:wr.cell? ⟨B,k*5+3,none⟩=some (.int .i64 js[k].tries):=by rw[←hgk];exact HE.o.2.2.cellBody k hk' 3 (by omega)
   have d4:wr.cell? ⟨B,k*5+4,none⟩=some (.int .u64 js[k].ready):=by rw[←hgk];exact HE.o.2.2.cellBody k hk' 4 (by omega)
   have HL:=Hm (And.intro hlen hgk)
   clear hlen hgk
   have hsz:=HE.o.2.1.size
   by_cases h0:js[k].lease=0
   ·have h0':((js[k].lease:Int) != 0)=false:=by simp[h0]
    have HD:Hd (js[k].due now=false):=⟨by simp[Job.due,h0]⟩
    clear h0
    go_wp2
    go_roundw
    case rel=>exact⟨k+1,by omega,by go_num,(HE.o.keep hlt HD.o).below ((Below.refl _ _).alloc (Nat.le_refl _) _)⟩
    case measure=>simp[intOf];omega
   ·have h0':((js[k].lease:Int) != 0)=true:=by simp[h0]
    by_cases h1:js[k].deadline≤now
    ·have h1':(js[k].deadline:Int)≤(now:Int):=by omega
     have HD:Hd (js[k].due now=true):=⟨by simp[Job.due,h0,h1]⟩
     clear h0 h1
     go_wp2_with fail
     have hbw:Below wr.heap.size wr (wr.alloc (.cells #[.bool js[k].done,.int .u64 js[k].lease,.int .u64 js[k].deadline,.int .i64 js[k].tries,.int .u64 js[k].ready] 53)):=(Below.refl _ _).alloc (Nat.le_refl _) _
     have HE1:=Hm (HE.o.below hbw)
     clear hbw
     have hy:=back_any p B (agedTo js t now k) t last k now _ HE1.o.2.2 hk' HN.o.1
     rw[HL.o.2] at hy
     refine hy.mono ?_
     clear hy
     rintro e w2 ⟨⟨ve,rfl⟩,ht,hkp⟩
     have HT2:=Hm ht
     have HK2:=Hm hkp
     clear ht hkp
     have HO2:=Hm (own_kept HE1.o.1 HK2.o HN.o.2.1 HN.o.2.2)
     have hle:=dueTo_le js now k
     have HS2:Hd (w.heap.size≤w2.heap.size):=⟨Nat.le_trans HE1.o.2.1.size HK2.o.size⟩
     clear d0 d1 d2 d3 d4
     go_wp2_with (first
      |(at_builtin;refine wpList_append_row rfl (.tmp 37) (.tmp 39) 29 rfl w.heap.size 3 i0 (.int .i64 0) 8 Tryz.underlying29 HI.o.1 HI.o.2.1 HI.o.2.2.1 HI.o.2.2.2 rfl _ (dueTo js now k).length (idxV (dueTo js now k)) rfl (HO2.o.alloc _) (some ⟨w2.heap.size,0,none⟩) 1 1 [Value.int .i64 k] rfl rfl (row_new _ _ _ _) ?x0 ?x1 ?x2 ?x3 ?x4))
     case x0=>intro u hu;simp at hu;subst hu;rfl
     case x1=>omega
     case x2=>unfold maxLen;omega
     case x3=>have:=HS2.o;simp;omega
     case x4 =>
      intro v3 w3 ho3 hg3
      have hk3:Kept (wr.alloc (.cells #[.bool js[k].done,.int .u64 js[k].lease,.int .u64 js[k].deadline,.int .i64 js[k].tries,.int .u64 js[k].ready] 53)) (w2.alloc (.cells #[Value.int .i64 k] 3)) p B:=HK2.o.trans (Kept.of_below ((Below.refl _ _).alloc (Nat.le_refl _) _))
      have ht3:=HT2.o.old ((Below.refl w2.heap.size w2).alloc (Nat.le_refl _) (.cells #[Value.int .i64 k] 3))
      have HE3:=Hm (HE1.o.turn hlt HD.o HN.o.2.1 HN.o.2.2 hk3 ht3 ho3 hg3 (λr hr=>(HO2.o.lt r hr).1))
      clear hk3 ht3 ho3 hg3
      go_wp2
      go_roundw
      case rel=>exact⟨k+1,by omega,by go_num,HE3.o⟩
      case measure=>simp[intOf];omega
    ·have h1':¬(js[k].deadline:Int)≤(now:Int):=by omega
     have HD:Hd (js[k].due now=false):=⟨by simp[Job.due,h1]⟩
     clear h0 h1
     go_wp2
     go_roundw
     case rel=>exact⟨k+1,by omega,by go_num,(HE.o.keep hlt HD.o).below ((Below.refl _ _).alloc (Nat.le_refl _) _)⟩
     case measure=>simp[intOf];omega
  ·obtain rfl:k=js.length:=by omega
   clear hlen
   go_wp2
   go_ret
   exact⟨HE.o.2.1,HE.o.2.2,_,rfl,HE.o.1⟩
end Go.Proofs.YtjkgligohegaeaaGreatDoor.Ls
namespace Go.Proofs.YtjkgligohegaeaaGreatDoor.Ls
open Go.RowKit
theorem TabAt.row {w:World} {p B:Nat} {js:List Job} {t:Times} {last:Nat} (h:TabAt w p B js t last):Row w (some ⟨B,0,none⟩) (flat js) :=
 row_block h.body (by intro j hj;simp[hj])
theorem flat_one (js:List Job):∀ u∈flat js,u.oneCell'=true:=by
 intro u hu
 obtain⟨j,_,hj⟩:=List.mem_flatMap.1 hu
 simp[Job.cells] at hj
 rcases hj with rfl|rfl|rfl|rfl|rfl<;>rfl
def JobsAt (w:World) (base:Nat) (v:Value) (js:List Job):Prop:=w.ownsRow base 53 5 v js.length (flat js)
theorem infoJobZ:∃ i,Tryz.prog.info? 53=some i∧i.zero=some (.agg #[.bool false,.int .u64 0,.int .u64 0,.int .i64 0,.int .u64 0])∧i.size=5∧i.bytes=40:=info_parts infoJob
theorem clone_any (B:Nat) (js:List Job) (w:World) (h:Row w (some ⟨B,0,none⟩) (flat js)) (hs:js.length≤16) :
  Calls Tryz.prog 76 #[.slice (some ⟨B,0,none⟩) js.length js.length] w λe w'=>Below w.heap.size w w'∧∃ v,e=.returned v∧JobsAt w' w.heap.size v js:=by
 have H:=Hm h
 obtain⟨i0,hi,hz0,hz1,hz2⟩:=infoJobZ
 have HI:=Hm (And.intro hi (And.intro hz0 (And.intro hz1 hz2)))
 have HS:=Hm hs
 clear h hi hz0 hz1 hz2 hs
 go_enter Tryz.func76,Tryz.ntmps76
 have he:=λ(w:World)=>Lib.run_eql_slice_nil (P:=Tryz.prog) w 46 53 (some ⟨B,0,none⟩) js.length js.length 0 0 Tryz.underlying46
 simp only[Option.isNone_some] at he
 have hown:(w.alloc (.cells #[] 53)).ownsRow w.heap.size 53 5 (.slice (some ⟨w.heap.size,0,none⟩) 0 0) 0 [] :=
  ⟨rfl,.inr ⟨w.heap.size,0,#[],rfl,Nat.le_refl _,heap_new _ _,Nat.le_refl _,Nat.zero_le _,rfl,rfl⟩⟩
 have HO:=Hm hown
 clear hown
 go_wp2_with (first
  |(at_builtin;refine wpList_append_emptyN rfl (.tmp 5) (.tmp 6) 46 rfl w.heap.size 53 i0 (.agg #[.bool false,.int .u64 0,.int .u64 0,.int .i64 0,.int .u64 0]) 5 40 Tryz.underlying46 HI.o.1 HI.o.2.1 HI.o.2.2.1 HI.o.2.2.2 rfl (by omega) (some ⟨w.heap.size,0,none⟩) rfl HO.o (some ⟨B,0,none⟩) js.length js.length (flat js) rfl (flat_length js) (H.o.below ((Below.refl _ _).alloc (Nat.le_refl _) _)) ?x1 ?x2 ?x3 ?x4))
 case x1=>have:=HS.o;omega
 case x2=>have:=HS.o;unfold maxLen;omega
 case x3=>simp
 case x4 =>
  intro v' w' hb hown
  have HB:=Hm hb
  have HW:=Hm hown
  clear hb hown
  go_wp2
  go_ret
  exact⟨((Below.refl w.heap.size w).alloc (Nat.le_refl _) (.cells #[] 53)).trans (HB.o.mono (by simp)),_,rfl,HW.o⟩
theorem jobs_any (p B:Nat) (js:List Job) (t:Times) (last:Nat) (w:World) (h:TabAt w p B js t last) :
  Calls Tryz.prog 38 #[.pointer (some ⟨p,0,none⟩)] w λe w'=>Below w.heap.size w w'∧∃ v,e=.returned v∧JobsAt w' w.heap.size v js:=by
 have c0:w.cell? ⟨p,0,none⟩=some (.slice (some ⟨B,0,none⟩) js.length js.length):=h.cellHead 0 (by omega)
 have H:=Hm h
 clear h
 go_enter Tryz.func38,Tryz.ntmps38
 go_wp2_with fail
 have hy:=clone_any B js w H.o.row H.o.small
 refine hy.mono ?_
 clear hy
 rintro e w' ⟨hb,v,rfl,hj⟩
 have HB:=Hm (And.intro hb hj)
 clear hb hj
 go_wp2
 go_ret
 exact⟨HB.o.1,v,rfl,HB.o.2⟩
theorem JobsAt.form {w:World} {base:Nat} {v:Value} {js:List Job} (h:JobsAt w base v js) (hn:0 < js.length):∃ g c,v=.slice (some ⟨g,0,none⟩) js.length c∧base≤g∧js.length≤c ∧
  ∀ i (hi:i < js.length) k (hk:k < 5),w.cell? ⟨g,i*5+k,none⟩=js[i].cells[k]?:=by
 rcases h.2 with ⟨_,h⟩|⟨g,cap,cur,e,hb,hh,hn2,_,hs,ht⟩
 ·omega
 ·refine⟨g,cap,e,hb,hn2,λi hi k hk=>?_⟩
  unfold World.cell?
  rw[hh]
  have hlt:i*5+k < js.length*5:=by omega
  rw[←flat_get js i hi k hk,←ht]
  simp
  rw[List.getElem?_take,if_pos hlt]
  simp
end Go.Proofs.YtjkgligohegaeaaGreatDoor.Ls
namespace Go.Proofs.YtjkgligohegaeaaGreatDoor
open Go.RowKit
structure Turn (w w':World) (ow ow':Nat→Nat) (I:Nat→Prop):Prop where
 only:Only w w' (λb=>I (ow b))
 old:∀ b,b < w.heap.size→ow' b=ow b
 zero:¬I 0
section
variable {w w':World} {ow ow':Nat→Nat} {I:Nat→Prop}
theorem Turn.heap (h:Turn w w' ow ow' I) {b:Nat} {o:Obj} (hb:w.heap[b]?=some o) (hI:¬I (ow b)):w'.heap[b]?=some o:=h.only.heap hb hI
theorem Turn.own (h:Turn w w' ow ow' I) {b:Nat} (hb:b < w.heap.size):ow' b=ow b:=h.old b hb
theorem Turn.stays (h:Turn w w' ow ow' I):Stays w w' (λb=>ow b=0) (λb=>ow' b=0):=λb ho hb=>⟨(h.old b hb).trans ho,h.only.block b hb (by rw[show ow b=0 from ho];exact h.zero)⟩
theorem Turn.row (h:Turn w w' ow ow' I) {A:Option Addr} {vs:List Value} (hr:Row w A vs) (hA:∀ a,A=some a→ow a.block=0):Row w' A vs:=row_only hr h.only (λa ha=>by rw[hA a ha];exact h.zero)
end
structure FSt where
 regs:Nat
 workers:Nat
 t:Ls.Times
 room:Nat
 box:Nat
 fs:List Func
 now:Nat
 js:List (Nat × List UInt8)
structure Hds where
 pf:Nat
 A:Option Addr
 c:Nat
 lv:Value
 bv:Value
 bp:Value
 tp:Value
 bs:List (Nat × Nat)
 bxs:List (List Value)
def farmCells (st:FSt) (h:Hds):Array Value:=#[.int .i64 st.regs,.int .i64 st.workers,.int .u64 st.t.lease,.int .u64 st.t.wait,.int .u64 st.t.most,.int .i64 st.room,.int .i64 st.box,h.lv,.int .u64 st.now,.pointer (some ⟨h.pf,0,none⟩),h.bp,h.tp,h.bv]
def LetterAt (w:World) (ow:Nat→Nat) (v:Value) (l:List UInt8):Prop:=∃ A c,v=.slice A l.length c∧Bytes w A l∧l.length≤c∧(0 < l.length→∀ a,A=some a→ow a.block=0)
structure Farm (w:World) (ow:Nat→Nat) (x:Nat) (st:FSt) (h:Hds) (lt:List (List (List UInt8))):Prop where
 head:w.heap[x]?=some (.cells (farmCells st h) 114 (0,0))
 ox:ow x=5
 funcs:Kd.SK kFunc w (λb=>ow b=0) st.fs h.lv
 file:FileAt w h.pf st.room (laid (recsOf st.js)) h.A h.c
 of_:ow h.pf=2
 oA:0 < (laid (recsOf st.js)).length→∀ a,h.A=some a→ow a.block=0
 row:∃ Ab cb,h.bv=.slice Ab h.bs.length cb∧h.bs.length≤cb∧Row w Ab (h.bs.map λp=>.pointer (some ⟨p.1,0,none⟩))∧∀ a,Ab=some a→ow a.block=0
 boxes:∀ i (h1:i < h.bs.length),Bx.BoxAt w h.bs[i].1 h.bs[i].2 162 st.box (h.bxs.getD i [])∧ow h.bs[i].1=0∧ow h.bs[i].2=10+i
 letters:∀ i,i < h.bs.length→(h.bxs.getD i []).length=(lt.getD i []).length∧∀ j (h1:j < (h.bxs.getD i []).length) (h2:j < (lt.getD i []).length),LetterAt w ow (h.bxs.getD i [])[j] (lt.getD i [])[j]
 lens:h.bs.length=st.workers+1∧h.bxs.length=st.workers+1∧lt.length=st.workers+1
 new:∀ b,w.heap.size≤b→ow b=0
structure FarmUp (w:World) (ow:Nat→Nat) (st:FSt) (h:Hds) (jobs:List Ls.Job) (last:Nat):Prop where
 ex:∃ pb base ok kv vv pt Bt,h.bp=.pointer (some ⟨pb,0,none⟩)∧h.tp=.pointer (some ⟨pt,0,none⟩)∧BookAt w pb h.pf base ok (keysOf st.js) (valsOf st.js) kv vv (laid (recsOf st.js)).length∧Ls.TabAt w pt Bt jobs st.t last ∧
  ow pb=3∧(∀ g,kv.ownBlock=some g→ow g=3)∧(∀ g,vv.ownBlock=some g→ow g=3)∧(∀ b,ok b→ow b=0)∧ow pt=4∧ow Bt=4
 len:jobs.length=st.fs.length
 done:∀ i (hi:i < jobs.length),jobs[i].done=decide (i∈st.js.map (·.1))
section
variable {w w':World} {ow ow':Nat→Nat} {x:Nat} {st:FSt} {h:Hds} {lt:List (List (List UInt8))} {I:Nat→Prop}
theorem LetterAt.turn {v:Value} {l:List UInt8} (hl:LetterAt w ow v l) (t:Turn w w' ow ow' I):LetterAt w' ow' v l:=by
 obtain⟨A,c,rfl,hb,hc,hA⟩:=hl
 by_cases h0:0 < l.length
 ·refine⟨A,c,rfl,t.row hb (hA h0),hc,λ_ a ha=>?_⟩
  obtain⟨b,off,e,hcl⟩:=hb 0 (by simpa using h0)
  rw[ha] at e
  cases e
  rw[t.old _ (World.block_lt_of_cell? w _ hcl)]
  exact hA h0 _ ha
 ·obtain rfl:l=[]:=List.eq_nil_of_length_eq_zero (by omega)
  exact⟨A,c,rfl,Bytes.nil _ _,hc,λh=>absurd h (by simp)⟩
theorem row_lt {A:Option Addr} {vs:List Value} (hr:Row w A vs) (h0:0 < vs.length):∀ a,A=some a→a.block < w.heap.size:=λa ha=>by
 obtain⟨b,off,e,hc⟩:=hr 0 h0
 rw[ha] at e
 cases e
 exact World.block_lt_of_cell? w _ hc
theorem Bx.BoxAt.turn {p c room T:Nat} {xs:List Value} (hb:Bx.BoxAt w p c T room xs) (t:Turn w w' ow ow' I) (hp:¬I (ow p)) (hc:¬I (ow c)):Bx.BoxAt w' p c T room xs:=by
 obtain⟨⟨fz,h1⟩,⟨s,r,h2⟩,h3,h4⟩:=hb
 exact⟨⟨fz,t.heap h1 hp⟩,⟨s,r,t.heap h2 hc⟩,h3,h4⟩
theorem Ls.TabAt.turn {p B:Nat} {js:List Ls.Job} {tt:Ls.Times} {last:Nat} (hb:Ls.TabAt w p B js tt last) (t:Turn w w' ow ow' I) (hp:¬I (ow p)) (hB:¬I (ow B)):Ls.TabAt w' p B js tt last :=
 { hb with head:=t.heap hb.head hp,body:=t.heap hb.body hB }
theorem Farm.turn (f:Farm w ow x st h lt) (t:Turn w w' ow ow' I) (hI:∀ n,I n→n≠5∧n≠2∧n < 10) (hn:∀ b,w'.heap.size≤b→ow' b=0):Farm w' ow' x st h lt:=by
 have z:=t.zero
 have i5:¬I (ow x):=by rw[f.ox];exact λe=>(hI _ e).1 rfl
 have i2:¬I (ow h.pf):=by rw[f.of_];exact λe=>(hI _ e).2.1 rfl
 have hpf:=hlt f.file.head
 refine⟨t.heap f.head i5,(t.own (hlt f.head)).trans f.ox,f.funcs.stay t.stays,f.file.only' t.only i2 (λh0 a ha=>by rw[f.oA h0 a ha];exact z),(t.own hpf).trans f.of_,λh0 a ha=>?_,?_,λi h1=>?_,λi hi=>⟨(f.letters i hi).1,λj h1 h2=>((f.letters i hi).2 j h1 h2).turn t⟩,f.lens,hn⟩
 ·rw[t.own (row_lt f.file.sure (by simpa using h0) a ha)]
  exact f.oA h0 a ha
 ·obtain⟨Ab,cb,e1,e2,e3,e4⟩:=f.row
  refine⟨Ab,cb,e1,e2,t.row e3 e4,λa ha=>?_⟩
  rw[t.own (row_lt e3 (by rw[List.length_map,f.lens.1];omega) a ha)]
  exact e4 a ha
 ·obtain⟨b1,b2,b3⟩:=f.boxes i h1
  have hl1:h.bs[i].1 < w.heap.size:=b1.lt
  have hl2:h.bs[i].2 < w.heap.size:=b1.chan.lt
  exact⟨b1.turn t (by rw[b2];exact z) (by rw[b3];exact λe=>by have:=(hI _ e).2.2;omega),(t.own hl1).trans b2,(t.own hl2).trans b3⟩
theorem FarmUp.turn {jobs:List Ls.Job} {last:Nat} (u:FarmUp w ow st h jobs last) (t:Turn w w' ow ow' I) (hI:∀ n,I n→n≠3∧n≠4):FarmUp w' ow' st h jobs last:=by
 obtain⟨⟨pb,base,ok,kv,vv,pt,Bt,e1,e2,hb,ht,o1,o2,o3,o4,o5,o6⟩,hl,hd⟩:=u
 have z:=t.zero
 have i3:∀ b,ow b=3→¬I (ow b):=λb hb=>by rw[hb];exact λe=>(hI _ e).1 rfl
 have i4:∀ b,ow b=4→¬I (ow b):=λb hb=>by rw[hb];exact λe=>(hI _ e).2 rfl
 have htl:=ht.lt
 refine⟨⟨pb,base,ok,kv,vv,pt,Bt,e1,e2,hb.only t.only (i3 _ o1) (λg hg=>i3 _ (o2 g hg)) (λg hg=>i3 _ (o3 g hg)) (λb hb=>by rw[o4 b hb];exact z),ht.turn t (i4 _ o5) (i4 _ o6),(t.own (hlt hb.head)).trans o1,
  λg hg=>(t.own (hb.tab.krow.lt g hg).2).trans (o2 g hg),λg hg=>(t.own (hb.tab.vrow.lt_own g hg).2).trans (o3 g hg),λb hb'=>(t.own (hb.tab.vrow.lt b hb')).trans (o4 b hb'),(t.own htl.1).trans o5,(t.own htl.2).trans o6⟩,hl,hd⟩
theorem Turn.bel (hb:Bel w w') (ow:Nat→Nat):Turn w w' ow ow (λ_=>False):=⟨Only.bel hb,λ_ _=>rfl,λh=>h⟩
theorem Farm.bel (f:Farm w ow x st h lt) (hb:Bel w w'):Farm w' ow x st h lt:=f.turn (Turn.bel hb ow) (λ_ h=>h.elim) (λb hb'=>f.new b (Nat.le_trans hb.size hb'))
theorem FarmUp.bel {jobs:List Ls.Job} {last:Nat} (u:FarmUp w ow st h jobs last) (hb:Bel w w'):FarmUp w' ow st h jobs last:=u.turn (Turn.bel hb ow) (λ_ h=>h.elim)
end
end Go.Proofs.YtjkgligohegaeaaGreatDoor
