/- Lemmas of the row. -/
import Derived.Test.YtjkgligohegaeaaGreatDoorN21
set_option linter.all false
set_option maxRecDepth 20000
set_option maxHeartbeats 12800000
namespace Go.Proofs.YtjkgligohegaeaaGreatDoor
open Go.RowKit
def TabOk (w:World):Prop:=w.cell? ⟨0,0,none⟩=some (.int .u8 0)∧w.cell? ⟨0,1,none⟩=some (.int .u8 1)
theorem TabOk.bel {w w':World} (h:TabOk w) (hb:Bel w w'):TabOk w':=⟨bCell hb h.1,bCell hb h.2⟩
def lowB (k:Nat):Nat:=if k=2 then 1 else 0
theorem tz_one (k:Nat) (hk:0 < k) (hk4:k < 4) (w:World) (h:TabOk w):Calls Tryz.prog 191 #[.int .u64 k] w λe w'=>e=.returned (.int .i64 (lowB k))∧w=w':=by
 obtain⟨c0,c1⟩:=h
 have e1:IntKind.u64.wrap (-1)=18446744073709551615:=rfl
 have e2:IntKind.u64.wrap (-2)=18446744073709551614:=rfl
 have e3:IntKind.u64.wrap (-3)=18446744073709551613:=rfl
 have b1:bits BinOp.and IntKind.u64 1 18446744073709551615=1:=by kernel_rfl
 have b2:bits BinOp.and IntKind.u64 2 18446744073709551614=2:=by kernel_rfl
 have b3:bits BinOp.and IntKind.u64 3 18446744073709551613=1:=by kernel_rfl
 have w1:IntKind.u64.wrap 285870213051353865=285870213051353865:=rfl
 have w2:IntKind.u64.wrap 571740426102707730=571740426102707730:=rfl
 have:k=1∨k=2∨k=3:=by omega
 clear hk hk4
 rcases this with rfl|rfl|rfl
 all_goals
  go_enter Tryz.func191,Tryz.ntmps191
  go_wp2_with fail
  go_ret
  exact⟨rfl,rfl⟩
theorem len_nil (w:World):Calls Tryz.prog 163 #[.agg #[.slice none 0 0]] w λe w'=>e=.returned (.int .i64 0)∧Bel w w':=by
 go_enter Tryz.func163,Tryz.ntmps163
 go_wp2_with fail
 refine wp_loop_rounds 1 ?_
 rw[rounds_succ]
 go_wp2_with fail
 go_ret
 exact⟨rfl,bA (bR w) _⟩
theorem all_nil (w:World):Calls Tryz.prog 164 #[.agg #[.slice none 0 0]] w λe w'=>e=.returned (.slice none 0 0)∧Bel w w':=by
 go_enter Tryz.func164,Tryz.ntmps164
 go_wp2_with fail
 refine wp_loop_rounds 1 ?_
 rw[rounds_succ]
 go_wp2_with fail
 go_ret
 exact⟨rfl,bA (bR w) _⟩
theorem clone_nil (w:World):Calls Tryz.prog 232 #[.slice none 0 0] w λe w'=>e=.returned (.slice none 0 0)∧Bel w w':=by
 have he:=λ(w:World)=>Lib.run_eql_slice_nil (P:=Tryz.prog) w 289 22 none 0 0 0 0 Tryz.underlying289
 go_enter Tryz.func232,Tryz.ntmps232
 go_wp2_with fail
 go_ret
 exact⟨rfl,bR w⟩
theorem clone_own (l:List Nat) (base:Nat) (v:Value) (w:World) (ho:OwnU w base v l) (h0:0 < l.length) (h6:l.length≤1000):Calls Tryz.prog 232 #[v] w λe w'=>Bel w w'∧∃ v',e=.returned v'∧OwnU w' w.heap.size v' l:=by
 obtain⟨g,c,rfl,-⟩:=own_form ho h0
 have hrow:Row w (some ⟨g,0,none⟩) (l.map λk:Nat=>Value.int .u64 k):=by
  obtain⟨A,c',e,hr,-⟩:=own_row ho
  cases e
  exact hr
 have HR:=Hm hrow
 have he:=λ(w:World)=>Lib.run_eql_slice_nil (P:=Tryz.prog) w 289 22 (some ⟨g,0,none⟩) l.length c 0 0 Tryz.underlying289
 have HO:=Hm (own_empty w w.heap.size 22 1 _ rfl (Nat.le_refl _))
 clear ho hrow
 go_enter Tryz.func232,Tryz.ntmps232
 go_wp2_with (at_builtin;refine app0 iU Tryz.underlying289 rfl (.tmp 5) (.tmp 6) rfl rfl HO.o (show w.heap.size≤(w.alloc _).heap.size by simp) (A:=some ⟨g,0,none⟩) (m:=l.length) (c:=c) rfl (HR.o.below (bA (bR _) _)) (by simp) (by omega) ?_;intro v' w' hb ho)
 go_ret
 exact⟨bUA hb,_,rfl,ho⟩
theorem copy_nil (w:World):Calls Tryz.prog 207 #[.agg #[.slice none 0 0]] w λe w'=>e=.returned (.agg #[.slice none 0 0])∧Bel w w':=by
 go_enter Tryz.func207,Tryz.ntmps207
 go_wp2_with fail
 refine(clone_nil _).mono ?_
 rintro e w1 ⟨rfl,hb1⟩
 have h2:w1.heap[w.heap.size+1]?=some (.cells #[.slice none 0 0] 291 (0,0)):=bHeap hb1 (hnew (by simp))
 have c2:w1.cell? ⟨w.heap.size+1,0,none⟩=some (.slice none 0 0):=hcell h2 0
 have f2:=hfree h2 0
 have z2:=hlt h2
 have HB:=Hm (bUA (bUA hb1))
 clear hb1 h2
 go_wp2_with fail
 refine bodyPost_ret (v:=.agg #[.slice none 0 0]) (by simp[results,Tryz.results207,go_sem,c2,z2]) rfl ⟨rfl,bC HB.o (by omega) _ _⟩
theorem copy_own (k base:Nat) (v:Value) (w:World) (ho:OwnU w base v [k]):Calls Tryz.prog 207 #[.agg #[v]] w λe w'=>Bel w w'∧∃ v',e=.returned (.agg #[v'])∧OwnU w' w.heap.size v' [k]:=by
 obtain⟨g,c,rfl,-⟩:=own_form ho (by simp)
 have HO:=Hm ho
 clear ho
 go_enter Tryz.func207,Tryz.ntmps207
 go_wp2_with fail
 refine(clone_own [k] base _ _ (own_below HO.o (bA (bA (bR w) _) _)) (by simp) (by simp)).mono ?_
 rintro e w1 ⟨hb1,v',rfl,ho1⟩
 obtain⟨g',c',rfl,hg'⟩:=own_form ho1 (by simp)
 have h2:w1.heap[w.heap.size+1]?=some (.cells #[.slice none 0 0] 291 (0,0)):=bHeap hb1 (hnew (by simp))
 have c2:w1.cell? ⟨w.heap.size+1,0,none⟩=some (.slice none 0 0):=hcell h2 0
 have f2:=hfree h2 0
 have z2:=hlt h2
 have HB:=Hm (bUA (bUA hb1))
 have HO1:=Hm ho1
 simp only[World.size_alloc] at hg'
 clear hb1 h2 ho1
 go_wp2_with fail
 refine bodyPost_ret (v:=.agg #[.slice (some ⟨g',0,none⟩) 1 c']) (by simp[results,Tryz.results207,go_sem,c2,z2]) rfl ⟨bC HB.o (by omega) _ _,_,rfl,own_base (own_only HO1.o (oC (Only.refl _ (λb=>b=w.heap.size+1)) rfl _ _) (λb hb e=>by cases hb;have e2:g'=w.heap.size+1:=e;omega)) (by simp;omega)⟩
theorem meet_nil (p o:Nat) (w:World) (c0:w.cell? ⟨p,o,none⟩=some (.slice none 0 0)) (v:Value) (hv:v.oneCell'=true):Calls Tryz.prog 245 #[.pointer (some ⟨p,o,none⟩),.agg #[v]] w λe w'=>e=.returned (.tuple #[])∧Bel w w':=by
 have hpz:=World.block_lt_of_cell? w _ c0
 dsimp only at hpz
 go_enter Tryz.func245,Tryz.ntmps245
 go_wp2_with fail
 refine wp_loop_rounds 1 ?_
 rw[rounds_succ]
 go_wp2_with fail
 go_end0
 exact⟨rfl,bA (bR w) _⟩
theorem all_zero (v:Value) (base:Nat) (w:World) (ho:OwnU w base v [0]):Calls Tryz.prog 164 #[.agg #[v]] w λe w'=>e=.returned (.slice none 0 0)∧Bel w w':=by
 obtain⟨g,c,cur,rfl,hg,hgc,hh,hcell,hfr,hgz⟩:=ownU_one ho
 clear ho
 go_enter Tryz.func164,Tryz.ntmps164
 go_wp2_with fail
 refine wp_loop_rounds 2 ?_
 rw[rounds_succ]
 go_wp2_with fail
 refine wp_loop_rounds 1 ?_
 rw[rounds_succ]
 go_wp2_with fail
 rw[rounds_succ]
 go_wp2_with fail
 go_ret
 exact⟨rfl,bA (bR w) _⟩
theorem all_1 (v:Value) (base:Nat) (w:World) (ht:TabOk w) (ho:OwnU w base v [1]):Calls Tryz.prog 164 #[.agg #[v]] w λe w'=>Bel w w'∧∃ v',e=.returned v'∧OwnI w' w.heap.size v' [0]:=by
 obtain⟨g,c,cur,rfl,hg,hgc,hh,hcell,hfr,hgz⟩:=ownU_one ho
 have HT:=Hm ht
 have HZ:Hd (∀ w',TabOk w'→Calls Tryz.prog 191 #[.int .u64 1] w' λe w''=>e=.returned (.int .i64 0)∧w'=w''):=⟨λw' h=>tz_one 1 (by omega) (by omega) w' h⟩
 clear ho ht
 have b1:bits BinOp.and IntKind.u64 1 0=0:=by kernel_rfl
 have b2:bits BinOp.and IntKind.u64 2 1=0:=by kernel_rfl
 go_enter Tryz.func164,Tryz.ntmps164
 go_wp2_with fail
 refine wp_loop_rounds 2 ?_
 rw[rounds_succ]
 go_wp2_with fail
 refine wp_loop_rounds 2 ?_
 rw[rounds_succ]
 go_wp2_with fail
 refine(HZ.o _ (HT.o.bel (bA (bR w) _))).mono ?_
 rintro e w1 ⟨rfl,rfl⟩
 go_wp2_with (at_builtin;refine app0 iInt Tryz.underlying29 rfl (.tmp 20) (.tmp 26) rfl rfl (own_none _ w.heap.size 3 1 0 rfl) (show w.heap.size≤((w.alloc _).alloc _).heap.size by simp;omega) (A:=some ⟨w.heap.size+1,0,none⟩) (m:=1) (c:=1) rfl (by have:=row_new (w.alloc (.cells #[.slice (some ⟨g,0,none⟩) 1 c] 291)) [.int .i64 0] 3 (0,0);simpa using this) rfl (by omega) ?_;intro v2 w2 hb2 ho2;obtain⟨g2,c2,e2,hg2⟩:=own_form ho2 (by omega);subst e2;have HB2:=Hm (bUA (bUA hb2));have HO2:=Hm ho2;clear hb2 ho2)
 rw[rounds_succ]
 go_wp2_with fail
 rw[rounds_succ]
 go_wp2_with fail
 go_ret
 exact⟨HB2.o,_,rfl,HO2.o⟩
theorem all_2 (v:Value) (base:Nat) (w:World) (ht:TabOk w) (ho:OwnU w base v [2]):Calls Tryz.prog 164 #[.agg #[v]] w λe w'=>Bel w w'∧∃ v',e=.returned v'∧OwnI w' w.heap.size v' [1]:=by
 obtain⟨g,c,cur,rfl,hg,hgc,hh,hcell,hfr,hgz⟩:=ownU_one ho
 have HT:=Hm ht
 have HZ:Hd (∀ w',TabOk w'→Calls Tryz.prog 191 #[.int .u64 2] w' λe w''=>e=.returned (.int .i64 1)∧w'=w''):=⟨λw' h=>tz_one 2 (by omega) (by omega) w' h⟩
 clear ho ht
 have b1:bits BinOp.and IntKind.u64 1 0=0:=by kernel_rfl
 have b2:bits BinOp.and IntKind.u64 2 1=0:=by kernel_rfl
 go_enter Tryz.func164,Tryz.ntmps164
 go_wp2_with fail
 refine wp_loop_rounds 2 ?_
 rw[rounds_succ]
 go_wp2_with fail
 refine wp_loop_rounds 2 ?_
 rw[rounds_succ]
 go_wp2_with fail
 refine(HZ.o _ (HT.o.bel (bA (bR w) _))).mono ?_
 rintro e w1 ⟨rfl,rfl⟩
 go_wp2_with (at_builtin;refine app0 iInt Tryz.underlying29 rfl (.tmp 20) (.tmp 26) rfl rfl (own_none _ w.heap.size 3 1 0 rfl) (show w.heap.size≤((w.alloc _).alloc _).heap.size by simp;omega) (A:=some ⟨w.heap.size+1,0,none⟩) (m:=1) (c:=1) rfl (by have:=row_new (w.alloc (.cells #[.slice (some ⟨g,0,none⟩) 1 c] 291)) [.int .i64 1] 3 (0,0);simpa using this) rfl (by omega) ?_;intro v2 w2 hb2 ho2;obtain⟨g2,c2,e2,hg2⟩:=own_form ho2 (by omega);subst e2;have HB2:=Hm (bUA (bUA hb2));have HO2:=Hm ho2;clear hb2 ho2)
 rw[rounds_succ]
 go_wp2_with fail
 rw[rounds_succ]
 go_wp2_with fail
 go_ret
 exact⟨HB2.o,_,rfl,HO2.o⟩
theorem all_3 (v:Value) (base:Nat) (w:World) (ht:TabOk w) (ho:OwnU w base v [3]):Calls Tryz.prog 164 #[.agg #[v]] w λe w'=>Bel w w'∧∃ v',e=.returned v'∧OwnI w' w.heap.size v' [0,1]:=by
 obtain⟨g,c,cur,rfl,hg,hgc,hh,hcell,hfr,hgz⟩:=ownU_one ho
 have HT:=Hm ht
 have HZ:Hd (∀ w',TabOk w'→Calls Tryz.prog 191 #[.int .u64 3] w' λe w''=>e=.returned (.int .i64 0)∧w'=w''):=⟨λw' h=>tz_one 3 (by omega) (by omega) w' h⟩
 have HZ2:Hd (∀ w',TabOk w'→Calls Tryz.prog 191 #[.int .u64 2] w' λe w''=>e=.returned (.int .i64 1)∧w'=w''):=⟨λw' h=>tz_one 2 (by omega) (by omega) w' h⟩
 clear ho ht
 have b1:bits BinOp.and IntKind.u64 3 2=2:=by kernel_rfl
 have b2:bits BinOp.and IntKind.u64 2 1=0:=by kernel_rfl
 go_enter Tryz.func164,Tryz.ntmps164
 go_wp2_with fail
 refine wp_loop_rounds 2 ?_
 rw[rounds_succ]
 go_wp2_with fail
 refine wp_loop_rounds 3 ?_
 rw[rounds_succ]
 go_wp2_with fail
 refine(HZ.o _ (HT.o.bel (bA (bR w) _))).mono ?_
 rintro e w1 ⟨rfl,rfl⟩
 go_wp2_with (at_builtin;refine app0 iInt Tryz.underlying29 rfl (.tmp 20) (.tmp 26) rfl rfl (own_none _ w.heap.size 3 1 0 rfl) (show w.heap.size≤((w.alloc _).alloc _).heap.size by simp;omega) (A:=some ⟨w.heap.size+1,0,none⟩) (m:=1) (c:=1) rfl (by have:=row_new (w.alloc (.cells #[.slice (some ⟨g,0,none⟩) 1 c] 291)) [.int .i64 0] 3 (0,0);simpa using this) rfl (by omega) ?_;intro v2 w2 hb2 ho2;obtain⟨g2,c2,e2,hg2⟩:=own_form ho2 (by omega);subst e2;have HB2:=Hm (bUA (bUA hb2));have HO2:=Hm ho2;clear hb2 ho2)
 have hz2:=HB2.o.size
 rw[rounds_succ]
 go_wp2_with fail
 refine(HZ2.o _ (HT.o.bel HB2.o)).mono ?_
 rintro e w1 ⟨rfl,rfl⟩
 go_wp2_with (at_builtin;refine app iInt Tryz.underlying29 rfl (.tmp 20) (.tmp 26) rfl rfl (HO2.o.alloc _) (show w.heap.size≤(w2.alloc _).heap.size by simp;omega) (A:=some ⟨w2.heap.size,0,none⟩) (m:=1) (c:=1) rfl (row_new w2 [.int .i64 1] 3 (0,0)) rfl (by simp[Value.oneCell']) (by omega) ?_;intro v3 w3 ho3 hg3;obtain⟨g3,c3,e3,hg4⟩:=own_form ho3 (by omega);subst e3;have HB3:=Hm (bG (bA HB2.o _) hg3 (λk hk=>by cases hk;exact hg2));have HO3:=Hm ho3;clear hg3 ho3)
 rw[rounds_succ]
 go_wp2_with fail
 rw[rounds_succ]
 go_wp2_with fail
 go_ret
 exact⟨HB3.o,_,rfl,HO3.o⟩
structure SetAt (w:World) (p base:Nat) (v:Value) (k:Nat):Prop where
 head:w.heap[p]?=some (.cells #[v] 291 (0,0))
 own:OwnU w base v [k]
 ne:v.ownBlock≠some p
section
variable {w w':World} {p base k n:Nat} {v:Value}
theorem SetAt.c0 (h:SetAt w p base v k):w.cell? ⟨p,0,none⟩=some v:=hcell h.head 0
theorem SetAt.step (h:SetAt w p base v k) (hs:Only w w' (λb=>v.ownBlock=some b)) (ho:OwnU w' base v [n]):SetAt w' p base v n:=⟨hs.heap h.head (λe=>h.ne e),ho,h.ne⟩
theorem SetAt.bel (h:SetAt w p base v k) (hb:Bel w w'):SetAt w' p base v k:=⟨bHeap hb h.head,own_below h.own hb,h.ne⟩
theorem SetAt.lt (h:SetAt w p base v k):∀ b,v.ownBlock=some b→b < w.heap.size:=λb hb=>by
 obtain⟨g,c,cur,e,-,-,-,-,-,hz⟩:=ownU_one h.own
 rw[e] at hb
 cases hb
 exact hz
end
theorem ints_at {w:World} {base:Nat} {v:Value} {l:List Int} (h:OwnI w base v l) (h0:0 < l.length):∃ g c,v=.slice (some ⟨g,0,none⟩) l.length c∧base≤g∧g < w.heap.size∧∀ j (hj:j < l.length),w.cell? ⟨g,j,none⟩=some (.int .i64 l[j]):=by
 obtain⟨g,c,rfl,hg⟩:=own_form h h0
 have hc:∀ j (hj:j < l.length),w.cell? ⟨g,j,none⟩=some (.int .i64 l[j]):=λj hj=>by
  have:=h.cellAt j (by simpa using hj)
  rw[this]
  simp[List.getElem?_eq_getElem hj]
 exact⟨g,c,rfl,hg,World.block_lt_of_cell? w _ (hc 0 h0),hc⟩
theorem only_cell {w w':World} {F:Nat→Prop} (h:Only w w' F) {b k:Nat} {v:Value} (hc:w.cell? ⟨b,k,none⟩=some v) (hF:¬F b):w'.cell? ⟨b,k,none⟩=some v:=by
 rw[cell_of_heap (a:=⟨b,k,none⟩) (h.block b (World.block_lt_of_cell? w _ hc) hF)]
 exact hc
theorem cs7 {w:World} {q:Nat} {v0 v1 v2 v3 v4 v5 v6:Value} {ty:TypeId} (h:w.heap[q]?=some (.cells #[v0,v1,v2,v3,v4,v5,v6] ty (0,0))):w.cell? ⟨q,0,none⟩=some v0∧w.cell? ⟨q,1,none⟩=some v1∧w.cell? ⟨q,2,none⟩=some v2∧w.cell? ⟨q,3,none⟩=some v3∧w.cell? ⟨q,4,none⟩=some v4∧w.cell? ⟨q,5,none⟩=some v5∧w.cell? ⟨q,6,none⟩=some v6∧q < w.heap.size:=⟨hcell h 0,hcell h 1,hcell h 2,hcell h 3,hcell h 4,hcell h 5,hcell h 6,hlt h⟩
theorem back_bin (p base c:Nat) (v:Value) (A:Option Addr) (w:World) (h:SetAt w p base v 2) :
  Calls Tryz.prog 208 #[.agg #[.int .u8 3,.int .u8 1,.int .i64 1,.int .i64 0,.int .i64 0,.int .i64 0,.slice A 0 c],.pointer (some ⟨p,0,none⟩)] w λe w'=>e=.returned (.tuple #[])∧Only w w' (λb=>v.ownBlock=some b)∧SetAt w' p base v 1:=by
 have H0:=Hm h
 clear h
 go_enter Tryz.func208,Tryz.ntmps208
 go_wp2_with fail
 refine(gives_any 3 1 1 0 0 0 A 0 c _).mono ?_
 rintro e w1 ⟨rfl,hb1⟩
 have hb1':=bUA hb1
 have H1:=Hm (H0.o.bel hb1')
 have O1:=Hm (Only.bel (F:=λb=>v.ownBlock=some b) hb1')
 have hx:∀ k,(w.alloc (.cells #[.int .u8 3,.int .u8 1,.int .i64 1,.int .i64 0,.int .i64 0,.int .i64 0,.slice A 0 c] 91)).cell? ⟨w.heap.size,k,none⟩=#[.int .u8 3,.int .u8 1,.int .i64 1,.int .i64 0,.int .i64 0,.int .i64 0,.slice A 0 c][k]?:=λk=>hcell (hnew rfl) k
 have HX1:Hd (w1.heap[w.heap.size]?=some (.cells #[.int .u8 3,.int .u8 1,.int .i64 1,.int .i64 0,.int .i64 0,.int .i64 0,.slice A 0 c] 91)):=⟨bHeap hb1 (hnew rfl)⟩
 clear hb1 hb1' hx
 have gv:givesD 3 1=1:=rfl
 have gb:givesB 3=true:=rfl
 rw[gv,gb]
 clear gv gb
 go_wp2_with fail
 refine(cut_one 2 1 (by omega) (by omega) rfl p 0 v base w1 H1.o.c0 H1.o.own).mono ?_
 rintro e w2 ⟨rfl,hs2,ho2⟩
 have hlt0:∀ b,v.ownBlock=some b→b < w.heap.size:=H0.o.lt
 have H2:=Hm (H1.o.step hs2 ho2)
 have O2:=Hm (O1.o.trans hs2 (λb _ e=>e))
 have HX2:=Hm (hs2.heap HX1.o (λe=>by have:=hlt0 _ e;omega))
 have HL:=Hm hlt0
 obtain⟨x0,x1,x2,x3,x4,x5,x6,xz⟩:=cs7 HX2.o
 clear hs2 ho2 H1 O1 HX1 hlt0
 go_wp2_with fail
 refine(uses_any 3 1 1 0 0 0 [] A c w2 (Row.nil _ _) (by simp)).mono ?_
 rintro e w3 ⟨hb3,u,rfl,hu⟩
 have H3:=Hm (H2.o.bel hb3)
 have O3:=Hm (oB O2.o hb3)
 obtain⟨gu,cu,rfl,hgu,hguz,hcu⟩:=ints_at (l:=[0,0]) hu (by simp)
 have u0:=hcu 0 (by simp)
 have u1:=hcu 1 (by simp)
 simp only[List.getElem_cons_zero,List.getElem_cons_succ] at u0 u1
 have hz2:w.heap.size≤w2.heap.size:=O2.o.size
 clear hb3 hu hcu x0 x1 x2 x3 x4 x5 x6 xz H2 O2 HX2
 go_wp2_with fail
 refine wp_loop_rounds 3 ?_
 rw[rounds_succ]
 go_wp2_with fail
 refine(put_new 0 0 (by omega) (by omega) rfl p 0 v base w3 H3.o.c0 H3.o.own).mono ?_
 rintro e w4 ⟨rfl,hs4,ho4⟩
 have H4:=Hm (H3.o.step hs4 ho4)
 have O4:=Hm (O3.o.trans hs4 (λb _ e=>e))
 have u0':=only_cell hs4 u0 (λe=>by have:=HL.o _ e;omega)
 have u1':=only_cell hs4 u1 (λe=>by have:=HL.o _ e;omega)
 have hz4:=hs4.size
 clear hs4 ho4 u0 u1 H3 O3
 go_wp2_with fail
 rw[rounds_succ]
 go_wp2_with fail
 refine(put_had 1 0 (by omega) (by omega) rfl p 0 v base w4 H4.o.c0 H4.o.own).mono ?_
 rintro e w5 ⟨rfl,hb5⟩
 have H5:=Hm (H4.o.bel hb5)
 have O5:=Hm (oB O4.o hb5)
 clear hb5 H4 O4 u0' u1'
 go_wp2_with fail
 rw[rounds_succ]
 go_wp2_with fail
 go_end0
 exact⟨rfl,O5.o,H5.o⟩
theorem back_fill (p base c:Nat) (v:Value) (A:Option Addr) (w:World) (h:SetAt w p base v 1) :
  Calls Tryz.prog 208 #[.agg #[.int .u8 8,.int .u8 0,.int .i64 0,.int .i64 0,.int .i64 0,.int .i64 0,.slice A 0 c],.pointer (some ⟨p,0,none⟩)] w λe w'=>e=.returned (.tuple #[])∧Only w w' (λb=>v.ownBlock=some b)∧SetAt w' p base v 0:=by
 have H0:=Hm h
 clear h
 go_enter Tryz.func208,Tryz.ntmps208
 go_wp2_with fail
 refine(gives_any 8 0 0 0 0 0 A 0 c _).mono ?_
 rintro e w1 ⟨rfl,hb1⟩
 have hb1':=bUA hb1
 have H1:=Hm (H0.o.bel hb1')
 have O1:=Hm (Only.bel (F:=λb=>v.ownBlock=some b) hb1')
 have HX1:Hd (w1.heap[w.heap.size]?=some (.cells #[.int .u8 8,.int .u8 0,.int .i64 0,.int .i64 0,.int .i64 0,.int .i64 0,.slice A 0 c] 91)):=⟨bHeap hb1 (hnew rfl)⟩
 clear hb1 hb1'
 have gv:givesD 8 0=0:=rfl
 have gb:givesB 8=true:=rfl
 rw[gv,gb]
 clear gv gb
 go_wp2_with fail
 refine(cut_one 1 0 (by omega) (by omega) rfl p 0 v base w1 H1.o.c0 H1.o.own).mono ?_
 rintro e w2 ⟨rfl,hs2,ho2⟩
 have hlt0:∀ b,v.ownBlock=some b→b < w.heap.size:=H0.o.lt
 have H2:=Hm (H1.o.step hs2 ho2)
 have O2:=Hm (O1.o.trans hs2 (λb _ e=>e))
 have HX2:=Hm (hs2.heap HX1.o (λe=>by have:=hlt0 _ e;omega))
 obtain⟨x0,x1,x2,x3,x4,x5,x6,xz⟩:=cs7 HX2.o
 clear hs2 ho2 H1 O1 HX1 hlt0
 go_wp2_with fail
 refine(uses_any 8 0 0 0 0 0 [] A c w2 (Row.nil _ _) (by simp)).mono ?_
 rintro e w3 ⟨hb3,u,rfl,hu⟩
 have H3:=Hm (H2.o.bel hb3)
 have O3:=Hm (oB O2.o hb3)
 obtain⟨Au,cu,rfl,-⟩:=own_row hu
 have hul:(usesL 8 0 0 []).length=0:=rfl
 rw[hul]
 clear hb3 hu hul x0 x1 x2 x3 x4 x5 x6 xz H2 O2 HX2
 go_wp2_with fail
 refine wp_loop_rounds 1 ?_
 rw[rounds_succ]
 go_wp2_with fail
 go_end0
 exact⟨rfl,O3.o,H3.o⟩
def binI:Ins:=⟨3,1,1,0,0,0,[]⟩
def filI:Ins:=⟨8,0,0,0,0,0,[]⟩
theorem ins_cells {w:World} {ok:Nat→Prop} {l:List Ins} {v:Value} (h:Kd.SK kIns w ok l v) (i:Nat) (hi:i < l.length) (x:Ins) (hx:l[i]=x) (ha:x.args=[]) :
  ∃ b off c A ca,v=.slice (some ⟨b,off,none⟩) l.length c∧ok b∧b < w.heap.size∧w.cell? ⟨b,off+i*7,none⟩=some (.int .u8 x.kind)∧w.cell? ⟨b,off+i*7+1,none⟩=some (.int .u8 x.op)∧w.cell? ⟨b,off+i*7+2,none⟩=some (.int .i64 x.d)∧w.cell? ⟨b,off+i*7+3,none⟩=some (.int .i64 x.a)∧w.cell? ⟨b,off+i*7+4,none⟩=some (.int .i64 x.b)∧w.cell? ⟨b,off+i*7+5,none⟩=some (.int .i64 x.n)∧w.cell? ⟨b,off+i*7+6,none⟩=some (.slice A 0 ca):=by
 obtain⟨b,off,c,cs,rfl,-,ho,hb,hk,hc⟩:=h.at_ i hi
 rw[hx] at hk
 obtain⟨-,u,rfl,hu⟩:=kIns_open hk
 rw[ha] at hu
 obtain⟨A,ca,e,-⟩:=ski hu
 subst e
 exact⟨b,off,c,A,ca,rfl,ho,hb,hc 0 (by decide),hc 1 (by decide),hc 2 (by decide),hc 3 (by decide),hc 4 (by decide),hc 5 (by decide),hc 6 (by decide)⟩
theorem cs5 {w:World} {q:Nat} {v0 v1 v2 v3 v4:Value} {ty:TypeId} (h:w.heap[q]?=some (.cells #[v0,v1,v2,v3,v4] ty (0,0))):w.cell? ⟨q,0,none⟩=some v0∧w.cell? ⟨q,1,none⟩=some v1∧w.cell? ⟨q,2,none⟩=some v2∧w.cell? ⟨q,3,none⟩=some v3∧w.cell? ⟨q,4,none⟩=some v4∧q < w.heap.size:=⟨hcell h 0,hcell h 1,hcell h 2,hcell h 3,hcell h 4,hlt h⟩
theorem bO {w w1 w2:World} {F:Nat→Prop} (h:Bel w w1) (hs:Only w1 w2 F) (hF:∀ b,F b→w.heap.size≤b):Bel w w2 :=
 (((Only.bel (F:=λ_=>False) h).trans hs (λb hb e=>by have:=hF b e;omega))).toBel (λ_ _ e=>e)
theorem pass_two (ok:Nat→Prop) (v:Value) (w:World) (hv:Kd.SK kIns w ok [filI,binI] v) :
  Calls Tryz.prog 197 #[.agg #[v,.int .u8 3,.int .i64 1,.int .i64 0,.int .i64 0],.agg #[.slice none 0 0]] w λe w'=>Bel w w'∧∃ v',e=.returned (.agg #[v'])∧OwnU w' w.heap.size v' [0]:=by
 have HV:=Hm hv
 obtain⟨bI,oI,cI,A0,c0,rfl,-⟩:=ins_cells hv 0 (by simp) filI rfl rfl
 clear hv
 go_enter Tryz.func197,Tryz.ntmps197
 go_wp2_with fail
 refine(copy_nil _).mono ?_
 rintro e w1 ⟨rfl,hb1⟩
 have HB1:=Hm (bUA (bUA (bUA hb1)))
 have h3:w1.heap[w.heap.size]?=some (.cells #[.slice (some ⟨bI,oI,none⟩) 2 cI,.int .u8 3,.int .i64 1,.int .i64 0,.int .i64 0] 97 (0,0)):=bHeap (bUA (bUA hb1)) (hnew rfl)
 have h4:w1.heap[w.heap.size+1+1]?=some (.cells #[.slice none 0 0] 291 (0,0)):=bHeap hb1 (hnew (by simp))
 obtain⟨q0,q1,q2,q3,q4,qz⟩:=cs5 h3
 have r0:=hcell h4 0
 have HQ:=Hm (And.intro h3 h4)
 have hz1:=hb1.size
 simp only[World.size_alloc] at hz1
 clear hb1 h3 h4
 go_wp2_with fail
 obtain⟨W2,hW2⟩:∃ W2,W2=w1.alloc (.cells #[.slice none 0 0] 291):=⟨_,rfl⟩
 obtain⟨p,hp⟩:∃ p,p=w1.heap.size:=⟨_,rfl⟩
 rw[←hW2,←hp]
 have HP2:Hd (W2.heap[p]?=some (.cells #[.slice none 0 0] 291 (0,0))):=⟨by rw[hW2];exact hnew hp⟩
 have HB2:Hd (Bel w1 W2):=⟨by rw[hW2];exact bA (bR _) _⟩
 have HQ2:=Hm (And.intro (bHeap HB2.o HQ.o.1) (bHeap HB2.o HQ.o.2))
 have hpq:w.heap.size+3≤p:=by omega
 have HBw2:=Hm (bT HB1.o HB2.o)
 clear hW2 hp q0 q1 q2 q3 q4 qz r0 hz1 HB1 HB2 HQ
 refine(last_any 3 1 0 0 _).mono ?_
 rintro e w3 ⟨rfl,hb3⟩
 have HP3:=Hm (bHeap hb3 HP2.o)
 have HQ3:=Hm (And.intro (bHeap hb3 HQ2.o.1) (bHeap hb3 HQ2.o.2))
 have HB3:=Hm (bT HBw2.o hb3)
 clear hb3 HP2 HQ2 HBw2
 have lb:lastB 3=true:=rfl
 rw[lb]
 clear lb
 go_wp2_with fail
 have hpz3:=hlt HP3.o
 refine(put_nil 1 (by omega) p 0 [.slice none 0 0] 291 w3 HP3.o rfl).mono ?_
 rintro e w4 ⟨rfl,v,hs4,hp4,ho4⟩
 have HS4:Hd (SetAt w4 p w3.heap.size v 2):=⟨⟨hp4,ho4,λe=>by have:=(ho4.lt _ e).1;omega⟩⟩
 have HB4:=Hm (bO HB3.o hs4 (λb e=>by omega))
 have HQ4:=Hm (And.intro (hs4.heap HQ3.o.1 (by omega)) (hs4.heap HQ3.o.2 (by omega)))
 have hz3:=HB3.o.size
 clear hs4 hp4 ho4 HP3 HQ3
 obtain⟨q0,q1,q2,q3,q4,qz⟩:=cs5 HQ4.o.1
 go_wp2_with fail
 refine wp_loop_rounds 3 ?_
 rw[rounds_succ]
 obtain⟨bJ,oJ,cJ,A1,c1,e1,-,-,y0,y1,y2,y3,y4,y5,y6⟩:=ins_cells (sk_bel HV.o HB4.o) 1 (by simp) binI rfl rfl
 cases e1
 simp only[binI,Nat.zero_mul,Nat.one_mul,Nat.add_zero] at y0 y1 y2 y3 y4 y5 y6
 go_wp2_with fail
 refine(back_bin p w3.heap.size c1 v A1 w4 HS4.o).mono ?_
 rintro e w5 ⟨rfl,hs,hS⟩
 have HS5:=Hm hS
 have HB5:=Hm (bO HB4.o hs (λb e=>by have:=(HS4.o.own.lt _ e).1;omega))
 have HQ5:=Hm (And.intro (hs.heap HQ4.o.1 (λe=>by have:=(HS4.o.own.lt _ e).1;omega)) (hs.heap HQ4.o.2 (λe=>by have:=(HS4.o.own.lt _ e).1;omega)))
 clear hs hS HS4 HB4 HQ4 q0 q1 q2 q3 q4 qz y0 y1 y2 y3 y4 y5 y6
 obtain⟨q0,q1,q2,q3,q4,qz⟩:=cs5 HQ5.o.1
 go_wp2_with fail
 rw[rounds_succ]
 obtain⟨bJ,oJ,cJ,A2,c2,e2,-,-,y0,y1,y2,y3,y4,y5,y6⟩:=ins_cells (sk_bel HV.o HB5.o) 0 (by simp) filI rfl rfl
 cases e2
 simp only[filI,Nat.zero_mul,Nat.one_mul,Nat.add_zero] at y0 y1 y2 y3 y4 y5 y6
 go_wp2_with fail
 refine(back_fill p w3.heap.size c2 v A2 w5 HS5.o).mono ?_
 rintro e w6 ⟨rfl,hs,hS⟩
 have HS6:=Hm hS
 have HB6:=Hm (bO HB5.o hs (λb e=>by have:=(HS5.o.own.lt _ e).1;omega))
 have HQ6:=Hm (And.intro (hs.heap HQ5.o.1 (λe=>by have:=(HS5.o.own.lt _ e).1;omega)) (hs.heap HQ5.o.2 (λe=>by have:=(HS5.o.own.lt _ e).1;omega)))
 clear hs hS HS5 HB5 HQ5 q0 q1 q2 q3 q4 qz y0 y1 y2 y3 y4 y5 y6
 obtain⟨q0,q1,q2,q3,q4,qz⟩:=cs5 HQ6.o.1
 go_wp2_with fail
 rw[rounds_succ]
 obtain⟨g,c,rfl,hg⟩:=own_form HS6.o.own (by simp)
 have r0:w6.cell? ⟨w.heap.size+1+1,0,none⟩=some (.slice none 0 0):=hcell HQ6.o.2 0
 have rf:=hfree HQ6.o.2 0
 have rz:=hlt HQ6.o.2
 have s0:=HS6.o.c0
 have sz:=hlt HS6.o.head
 go_wp2_with fail
 refine bodyPost_ret (v:=.agg #[.slice (some ⟨g,0,none⟩) 1 c]) (by simp[results,Tryz.results197,go_sem,r0,rz]) rfl ⟨bC HB6.o (by omega) _ _,_,rfl,own_base (own_only HS6.o.own (oC (Only.refl _ (λb=>b=w.heap.size+1+1)) rfl _ _) (λb hb e=>by cases hb;have e2:g=w.heap.size+1+1:=e;omega)) (by omega)⟩
theorem pass_one (ok:Nat→Prop) (v:Value) (w:World) (hv:Kd.SK kIns w ok [binI] v) :
  Calls Tryz.prog 197 #[.agg #[v,.int .u8 3,.int .i64 1,.int .i64 0,.int .i64 0],.agg #[.slice none 0 0]] w λe w'=>Bel w w'∧∃ v',e=.returned (.agg #[v'])∧OwnU w' w.heap.size v' [1]:=by
 have HV:=Hm hv
 obtain⟨bI,oI,cI,A0,c0,rfl,-⟩:=ins_cells hv 0 (by simp) binI rfl rfl
 clear hv
 go_enter Tryz.func197,Tryz.ntmps197
 go_wp2_with fail
 refine(copy_nil _).mono ?_
 rintro e w1 ⟨rfl,hb1⟩
 have HB1:=Hm (bUA (bUA (bUA hb1)))
 have h3:w1.heap[w.heap.size]?=some (.cells #[.slice (some ⟨bI,oI,none⟩) 1 cI,.int .u8 3,.int .i64 1,.int .i64 0,.int .i64 0] 97 (0,0)):=bHeap (bUA (bUA hb1)) (hnew rfl)
 have h4:w1.heap[w.heap.size+1+1]?=some (.cells #[.slice none 0 0] 291 (0,0)):=bHeap hb1 (hnew (by simp))
 obtain⟨q0,q1,q2,q3,q4,qz⟩:=cs5 h3
 have r0:=hcell h4 0
 have HQ:=Hm (And.intro h3 h4)
 have hz1:=hb1.size
 simp only[World.size_alloc] at hz1
 clear hb1 h3 h4
 go_wp2_with fail
 obtain⟨W2,hW2⟩:∃ W2,W2=w1.alloc (.cells #[.slice none 0 0] 291):=⟨_,rfl⟩
 obtain⟨p,hp⟩:∃ p,p=w1.heap.size:=⟨_,rfl⟩
 rw[←hW2,←hp]
 have HP2:Hd (W2.heap[p]?=some (.cells #[.slice none 0 0] 291 (0,0))):=⟨by rw[hW2];exact hnew hp⟩
 have HB2:Hd (Bel w1 W2):=⟨by rw[hW2];exact bA (bR _) _⟩
 have HQ2:=Hm (And.intro (bHeap HB2.o HQ.o.1) (bHeap HB2.o HQ.o.2))
 have hpq:w.heap.size+3≤p:=by omega
 have HBw2:=Hm (bT HB1.o HB2.o)
 clear hW2 hp q0 q1 q2 q3 q4 qz r0 hz1 HB1 HB2 HQ
 refine(last_any 3 1 0 0 _).mono ?_
 rintro e w3 ⟨rfl,hb3⟩
 have HP3:=Hm (bHeap hb3 HP2.o)
 have HQ3:=Hm (And.intro (bHeap hb3 HQ2.o.1) (bHeap hb3 HQ2.o.2))
 have HB3:=Hm (bT HBw2.o hb3)
 clear hb3 HP2 HQ2 HBw2
 have lb:lastB 3=true:=rfl
 rw[lb]
 clear lb
 go_wp2_with fail
 have hpz3:=hlt HP3.o
 refine(put_nil 1 (by omega) p 0 [.slice none 0 0] 291 w3 HP3.o rfl).mono ?_
 rintro e w4 ⟨rfl,v,hs4,hp4,ho4⟩
 have HS4:Hd (SetAt w4 p w3.heap.size v 2):=⟨⟨hp4,ho4,λe=>by have:=(ho4.lt _ e).1;omega⟩⟩
 have HB4:=Hm (bO HB3.o hs4 (λb e=>by omega))
 have HQ4:=Hm (And.intro (hs4.heap HQ3.o.1 (by omega)) (hs4.heap HQ3.o.2 (by omega)))
 have hz3:=HB3.o.size
 clear hs4 hp4 ho4 HP3 HQ3
 obtain⟨q0,q1,q2,q3,q4,qz⟩:=cs5 HQ4.o.1
 go_wp2_with fail
 refine wp_loop_rounds 2 ?_
 rw[rounds_succ]
 obtain⟨bJ,oJ,cJ,A1,c1,e1,-,-,y0,y1,y2,y3,y4,y5,y6⟩:=ins_cells (sk_bel HV.o HB4.o) 0 (by simp) binI rfl rfl
 cases e1
 simp only[binI,Nat.zero_mul,Nat.one_mul,Nat.add_zero] at y0 y1 y2 y3 y4 y5 y6
 go_wp2_with fail
 refine(back_bin p w3.heap.size c1 v A1 w4 HS4.o).mono ?_
 rintro e w5 ⟨rfl,hs,hS⟩
 have HS5:=Hm hS
 have HB5:=Hm (bO HB4.o hs (λb e=>by have:=(HS4.o.own.lt _ e).1;omega))
 have HQ5:=Hm (And.intro (hs.heap HQ4.o.1 (λe=>by have:=(HS4.o.own.lt _ e).1;omega)) (hs.heap HQ4.o.2 (λe=>by have:=(HS4.o.own.lt _ e).1;omega)))
 clear hs hS HS4 HB4 HQ4 q0 q1 q2 q3 q4 qz y0 y1 y2 y3 y4 y5 y6
 obtain⟨q0,q1,q2,q3,q4,qz⟩:=cs5 HQ5.o.1
 go_wp2_with fail
 rw[rounds_succ]
 obtain⟨g,c,rfl,hg⟩:=own_form HS5.o.own (by simp)
 have r0:w5.cell? ⟨w.heap.size+1+1,0,none⟩=some (.slice none 0 0):=hcell HQ5.o.2 0
 have rf:=hfree HQ5.o.2 0
 have rz:=hlt HQ5.o.2
 have s0:=HS5.o.c0
 have sz:=hlt HS5.o.head
 go_wp2_with fail
 refine bodyPost_ret (v:=.agg #[.slice (some ⟨g,0,none⟩) 1 c]) (by simp[results,Tryz.results197,go_sem,r0,rz]) rfl ⟨bC HB5.o (by omega) _ _,_,rfl,own_base (own_only HS5.o.own (oC (Only.refl _ (λb=>b=w.heap.size+1+1)) rfl _ _) (λb hb e=>by cases hb;have e2:g=w.heap.size+1+1:=e;omega)) (by omega)⟩
theorem funcs_small (fs:List SpecV):∀ f∈funcsOf fs,Small f:=by
 intro f hf
 unfold funcsOf at hf
 split at hf
 ·simp at hf
  subst hf
  exact made_small 0 0 0 (by omega) []
 ·obtain⟨s,hs,rfl⟩:=List.mem_map.1 hf
  exact made_small _ _ _ (Nat.mod_lt _ (by omega)) _
theorem funcs_len (fs:List SpecV):1≤(funcsOf fs).length∧(funcsOf fs).length≤5:=by
 unfold funcsOf
 split
 ·simp
 ·rename_i h
  have h1:0 < fs.length:=List.length_pos_iff.2 h
  rw[List.length_map,List.length_take]
  omega
theorem cfg_conf (r k x a b c:Nat) (fs:List SpecV) (room:Nat) (h:room≤4194304):CfOk { cfgOf r k x a b c (funcsOf fs) with room:=room }:=by
 have k1:r % 6 < 6:=Nat.mod_lt _ (by omega)
 have k2:k % 3 < 3:=Nat.mod_lt _ (by omega)
 have k3:x % 6 < 6:=Nat.mod_lt _ (by omega)
 refine⟨?_,?_,?_,?_,h,?_,?_,λf hf=>(funcs_small fs f hf).ok⟩<;>simp only[cfgOf]<;>omega
theorem cfg_ok (r k x a b c:Nat) (fs:List SpecV) (room:Nat):StOk { cfgOf r k x a b c (funcsOf fs) with room:=room }:=by
 have k1:a % 20 < 20:=Nat.mod_lt _ (by omega)
 have k2:b % 10 < 10:=Nat.mod_lt _ (by omega)
 have k3:c % 60 < 60:=Nat.mod_lt _ (by omega)
 have k4:k % 3 < 3:=Nat.mod_lt _ (by omega)
 have h:=funcs_len fs
 have hb:∀ n:Nat,1≤n→n≤1099511627776→Ls.bad n=false:=λn h1 h2=>by
  unfold Ls.bad
  rw[decide_eq_false (by omega),decide_eq_false (by omega)]
  rfl
 exact⟨h.1,Nat.le_trans h.2 (by omega),hb _ (by show 1≤1+a % 20;omega) (by show 1+a % 20≤_;omega),hb _ (by show 1≤1+b % 10;omega) (by show 1+b % 10≤_;omega),hb _ (by show 1≤1+b % 10+c % 60;omega) (by show 1+b % 10+c % 60≤_;omega),
  by show ¬1+b % 10+c % 60 < 1+b % 10;omega,by show 1+k % 3≤3;omega,rfl⟩
theorem funcs_fine (fs:List SpecV):FsFine (funcsOf fs):=by
 refine⟨λf hf=>?_,λf hf b hb=>⟨?_,λi hi=>?_⟩,λf hf=>?_⟩
 ·have h:=(funcs_small fs f hf).ok
  have h1:=h.p0;have h2:=h.p4;have h3:=h.pv;have h4:=h.v32
  exact⟨wf64.2 (by omega),wf64.2 (by omega)⟩
 ·have:=(funcs_small fs f hf).i8 b hb
  omega
 ·have:=(((funcs_small fs f hf).ok.blocks b hb).ins i hi).args3
  omega
 ·have:=(funcs_small fs f hf).b7
  omega
structure NxIn (w:World) (p:Nat) (l:List UInt8) (A:Option Addr) (ca:Nat):Prop where
 head:w.heap[p]?=some (.cells ([.slice A l.length ca]:List Value).toArray 38 (0,0))
 bytes:Bytes w A l
 below_:0 < l.length→∀ a,A=some a→a.block < p
 cap:l.length≤ca
 small:l.length≤200
def NxAt (w:World) (p:Nat) (l:List UInt8):Prop:=∃ A ca,NxIn w p l A ca
theorem NxAt.only {w w':World} {p:Nat} {l:List UInt8} {F:Nat→Prop} (h:NxAt w p l) (hs:Only w w' F) (hF:∀ b,b≤p→¬F b):NxAt w' p l:=by
 obtain⟨A,ca,h⟩:=h
 refine⟨A,ca,hs.heap h.head (hF _ (Nat.le_refl _)),?_,h.below_,h.cap,h.small⟩
 by_cases h0:0 < l.length
 ·exact row_only h.bytes hs (λa ha=>hF _ (Nat.le_of_lt (h.below_ h0 a ha)))
 ·obtain rfl:l=[]:=List.eq_nil_of_length_eq_zero (by omega)
  exact Bytes.nil _ _
structure NxStep (w w':World) (p:Nat) (l:List UInt8):Prop where
 only:Only w w' (λb=>b=p)
 rd:NxAt w' p l
theorem nx_tail {w:World} {p bl off off' ca:Nat} {b:UInt8} {l:List UInt8} (h:NxIn w p (b :: l) (some ⟨bl,off,none⟩) ca) (ho:off'=off+1∨l=[]):NxStep w (w.setCell ⟨p,0,none⟩ (.slice (some ⟨bl,off',none⟩) l.length (ca-1))) p l:=by
 have hbl:bl < p:=h.below_ (by simp) _ rfl
 refine⟨oC (F:=λb=>b=p) (Only.refl w _) rfl _ _,some ⟨bl,off',none⟩,ca-1,by rw[Go.Joins.block_setCell h.head _];rfl,?_,λ_ a ha=>by cases ha;exact hbl,by have:=h.cap;simp at this;omega,by have:=h.small;simp at this;omega⟩
 rcases ho with rfl|rfl
 ·intro j hj
  obtain⟨b',o',e,hc⟩:=h.bytes (j+1) (by simpa using hj)
  simp only[Option.some.injEq,Addr.mk.injEq,and_true] at e
  obtain⟨rfl,rfl⟩:=e
  refine⟨bl,off+1,rfl,?_⟩
  simp only[List.map_cons,List.getElem_cons_succ] at hc
  rw[show off+1+j=off+(j+1) by omega,←hc]
  exact cell_of_heap (heap_setCell_other w ⟨p,0,none⟩ bl _ (by simp only;omega))
 ·exact Bytes.nil _ _
theorem next_any' (p:Nat) (l:List UInt8) (w:World) (h:NxAt w p l) :
  Calls Tryz.prog 79 #[.pointer (some ⟨p,0,none⟩)] w λe w'=>e=.returned (.int .i64 (chd l))∧NxStep w w' p l.tail:=by
 have H:=Hm h
 obtain⟨A,ca,hi⟩:=h
 have HI:=Hm hi
 have c0:w.cell? ⟨p,0,none⟩=some (.slice A l.length ca):=cell_at hi.head
 have f0:=free_at hi.head 0
 have hp:=hlt hi.head
 cases l with
 |nil =>
  clear hi
  go_enter Tryz.func79,Tryz.ntmps79
  go_wp2_with fail
  go_ret
  exact⟨rfl,Only.refl _ _,H.o⟩
 |cons b l =>
  obtain⟨bl,off,rfl,hc⟩:=hi.bytes 0 (by simp)
  simp only[List.map_cons,List.getElem_cons_zero,Nat.add_zero] at hc
  unfold byteV at hc
  have hca:=hi.cap
  have hsm:=hi.small
  have hb256:(b.toNat:Int) < 256:=by have:=b.toNat_lt;omega
  have HB:=Hm hb256
  have hw2:IntKind.i64.wrap (b.toNat:Int)=(b.toNat:Int):=Go.IntWalk.i64_in _ (by have:=HB.o;omega)
  have hl1:¬(l.length+1=0):=by omega
  simp only[List.length_cons] at c0 hca hsm
  clear hi hb256
  generalize hq:b.toNat=q at *
  have HQ:=Hm hq
  clear hq
  go_enter Tryz.func79,Tryz.ntmps79
  go_wp2_with fail
  ·go_ret
   refine⟨by rw[←HQ.o];rfl,?_⟩
   have:=nx_tail (off':=off) HI.o (.inr (List.eq_nil_of_length_eq_zero (by omega)))
   rw[show ca-1=0 by omega] at this
   exact this
  ·go_ret
   refine⟨by rw[←HQ.o];rfl,nx_tail HI.o (.inl rfl)⟩
structure NI (X:World) (x:Nat) (okI:Nat→Prop) (ys:List Ins) (vI:Value) (es:List Value):Prop where
 var:X.heap[x]?=some (.cells (vI :: es).toArray 97 (0,0))
 inn:KRow kIns X (x+1) 91 okI ys vI
 ok:∀ b,okI b→x < b
section
variable {X X':World} {x:Nat} {okI okI':Nat→Prop} {ys ys':List Ins} {vI vI':Value} {es:List Value}
theorem NI.lt (h:NI X x okI ys vI es):x < X.heap.size:=hlt h.var
theorem NI.own (h:NI X x okI ys vI es) {b:Nat} (hb:vI.ownBlock=some b):x < b∧b < X.heap.size:=h.inn.lt_own b hb
theorem NI.only {F:Nat→Prop} (h:NI X x okI ys vI es) (hs:Only X X' F) (hx:¬F x) (hv:∀ b,vI.ownBlock=some b→¬F b) (ho:∀ b,okI b→¬F b):NI X' x okI ys vI es :=
 ⟨hs.heap h.var hx,h.inn.only hs hv ho,h.ok⟩
theorem NI.bel (h:NI X x okI ys vI es) (hb:Bel X X'):NI X' x okI ys vI es:=h.only (F:=λ_=>False) (Only.bel hb) (λh=>h) (λ_ _ h=>h) (λ_ _ h=>h)
theorem NI.push (h:NI X x okI ys vI es) (hg:X.grownBy X' vI.ownBlock) (hi:KRow kIns X' (x+1) 91 okI' ys' vI') (ho:∀ b,okI' b→x < b):NI (X'.setCell ⟨x,0,none⟩ vI') x okI' ys' vI' es:=by
 have hs:Only X X' (λb=>vI.ownBlock=some b):=Only.grown hg (λg e=>e)
 have hs2:Only X' (X'.setCell ⟨x,0,none⟩ vI') (λb=>b=x):=Only.grown (grownBy_cell X' x 0 vI') (λg e=>by cases e;rfl)
 have hvar:X'.heap[x]?=some (.cells (vI :: es).toArray 97 (0,0)):=hs.heap h.var (λe=>by have:=(h.own e).1;omega)
 exact⟨by have:=set_at hvar 0 vI';simpa using this,hi.only hs2 (λb hb e=>by have:=(hi.lt_own b hb).1;omega) (λb hb e=>by have:=ho b hb;omega),ho⟩
end
def NFill (w w':World) (x:Nat) (okI:Nat→Prop) (ys:List Ins) (vI:Value) (es:List Value) (v:Int) (r:Nat):Prop :=
 ∃ vI',NI w' x okI (ys++[fillI v r]) vI' es∧Only w w' (λb=>b=x∨vI.ownBlock=some b)∧(vI'.ownBlock=vI.ownBlock∨∃ g,vI'.ownBlock=some g∧w.heap.size≤g)
theorem fill_any' (x:Nat) (okI:Nat→Prop) (ys:List Ins) (vI:Value) (es:List Value) (hes:es.length=4) (v:Int) (r:Nat) (hv:(Lit.int .i64 v).wf=true) (hr:r < 1000) (hys:ys.length≤1000) (w:World) (h:NI w x okI ys vI es) :
  Calls Tryz.prog 80 #[.int .i64 v,.int .i64 r,.pointer (some ⟨x,0,none⟩)] w λe w'=>e=.returned (.int .i64 r)∧NFill w w' x okI ys vI es v r:=by
 have H:=Hm h
 obtain⟨A,c,rfl,-,-,-⟩:=h.inn.form
 have HL:=Hm hys
 have c0:w.cell? ⟨x,0,none⟩=some (.slice A ys.length c):=cell_at h.var
 have hx:=h.lt
 have hK:∀ (w':World),kIns.K w' okI (fillI v r) [.int .u8 8,.int .u8 0,.int .i64 r,.int .i64 v,.int .i64 0,.int .i64 0,.slice none 0 0]:=λw' =>
  kIns_mk (i:=fillI v r) ⟨wf8.2 (by simp[fillI]),wf8.2 (by simp[fillI]),wf64.2 (by simp[fillI];omega),hv,wf64.2 (by simp[fillI]),wf64.2 (by simp[fillI])⟩ (Kd.SK.nil 0 (Nat.zero_le _) none)
 have HK:=Hm hK
 have HW:w.heap.size=w.heap.size:=rfl
 clear h hys hK hv
 go_enter Tryz.func80,Tryz.ntmps80
 go_wp2_with (first
  |(at_builtin;refine appK iIns Tryz.underlying92 rfl (.tmp 7) (.tmp 11) rfl rfl (H.o.inn.bel (bA (bR _) (.cells #[.int .u8 8,.int .u8 0,.int .i64 r,.int .i64 v,.int .i64 0,.int .i64 0,.slice none 0 0] 91))) (show x+1≤(w.alloc _).heap.size by simp;omega) (q:=w.heap.size) rfl (row_new _ _ _ _) (HK.o _) (show (ys.length+1)*64≤140737488355328 by have:=HL.o;omega) ?_)
  |fail)
 intro v7 X4 hk7 hg7 hw7
 have hB:=H.o.bel (bA (bR w) (.cells #[.int .u8 8,.int .u8 0,.int .i64 r,.int .i64 v,.int .i64 0,.int .i64 0,.slice none 0 0] 91))
 have hP:=Hm (hB.push hg7 hk7 H.o.ok)
 have hvar:X4.heap[x]?=some (.cells (.slice A ys.length c :: es).toArray 97 (0,0)):=by
  rw[hg7.block x (by simp;omega) (λe=>by have:=(H.o.own e.symm).1;omega)]
  exact hB.var
 have c1:X4.cell? ⟨x,0,none⟩=some (.slice A ys.length c):=cell_at hvar
 have f1:=free_at hvar 0
 have hx4:=hlt hvar
 have HO:Hd (Only w (X4.setCell ⟨x,0,none⟩ v7) (λb=>b=x∨(Value.slice A ys.length c).ownBlock=some b)):=⟨oC (Only.belLeft (bA (bR w) _) (Only.grown (F:=λb=>b=x∨(Value.slice A ys.length c).ownBlock=some b) hg7 (λg e=>.inr e))) (.inl rfl) _ _⟩
 have HW:Hd (v7.ownBlock=(Value.slice A ys.length c).ownBlock∨∃ g,v7.ownBlock=some g∧w.heap.size≤g):=⟨by
  rcases hw7 with h|h
  ·exact .inl h
  ·exact .inr ⟨_,h,by simp⟩⟩
 obtain⟨A7,c7,rfl,-,-,-⟩:=hk7.form
 have hl1:(ys++[fillI v r]).length=ys.length+1:=by simp
 rw[hl1] at hP HO HW⊢
 clear hB hg7 hw7 hk7 hvar HK hl1
 go_wp2_with fail
 go_ret
 exact⟨rfl,_,hP.o,HO.o,HW.o⟩
theorem nvL_snoc (regs:Nat) (is:List Ins) (l:List UInt8) (i:Ins):nvL regs (is++[i]) l=nvL regs is l++nvIns regs (chd (l.drop is.length)) i:=by
 induction is generalizing l with
 |nil=>simp[nvL]
 |cons a r ih =>
  simp only[List.cons_append,nvL,ih,List.append_assoc,List.length_cons]
  congr 3
  cases l<;>simp
theorem nvL_take (regs:Nat) (is:List Ins) (l:List UInt8) (k:Nat) (h:k < is.length):nvL regs (is.take (k+1)) l=nvL regs (is.take k) l++nvIns regs (chd (l.drop k)) is[k]:=by
 rw[take_snoc' is k h,nvL_snoc]
 rw[show (is.take k).length=k by simp;omega]
def nvLeft:List Block→List UInt8→List UInt8
 |[],l=>l
 |b :: r,l=>nvLeft r (nvRest b l)
theorem nvLeft_snoc (g:List Block) (l:List UInt8) (b:Block):nvLeft (g++[b]) l=nvRest b (nvLeft g l):=by
 induction g generalizing l with
 |nil=>rfl
 |cons a r ih=>exact ih _
theorem nvBlocks_snoc (regs:Nat) (g:List Block) (l:List UInt8) (b:Block):nvBlocks regs (g++[b]) l=nvBlocks regs g l++[nvBlock regs b (nvLeft g l)]:=by
 induction g generalizing l with
 |nil=>rfl
 |cons a r ih=>simp only[List.cons_append,nvBlocks,nvLeft,ih]
theorem nvBlocks_len' (regs:Nat) (g:List Block) (l:List UInt8):(nvBlocks regs g l).length=g.length:=by
 induction g generalizing l with
 |nil=>rfl
 |cons a r ih=>simp[nvBlocks,ih]
theorem homeL_snoc (regs n:Nat):homeL regs (n+1)=homeL regs n++[⟨(n:Int),(regs:Int)+(n:Int)⟩]:=by
 unfold homeL
 rw[List.range_succ,List.map_append]
 rfl
theorem fillsA_snoc (k:Nat) (l:List Int) (a:Int):fillsA k (l++[a])=fillsA k l++[fillI a (k+l.length)]:=by
 induction l generalizing k with
 |nil=>rfl
 |cons b r ih=>simp only[List.cons_append,fillsA,ih,List.length_cons];rw[show k+1+r.length=k+(r.length+1) by omega]
theorem fillsA_len (k:Nat) (l:List Int):(fillsA k l).length=l.length:=by
 induction l generalizing k with
 |nil=>rfl
 |cons b r ih=>simp[fillsA,ih]
theorem upTo_snoc (n:Nat):upTo (n+1)=upTo n++[(n:Int)]:=by
 unfold upTo
 rw[List.range_succ,List.map_append]
 rfl
end Go.Proofs.YtjkgligohegaeaaGreatDoor
