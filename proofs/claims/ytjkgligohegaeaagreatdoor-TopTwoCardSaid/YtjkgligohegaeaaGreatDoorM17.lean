/- Texts of the top seat, merged: what the claim uses of them. -/
import Derived.BigQuiet
import Derived.Deep.QuietTactic
import Derived.Test.YtjkgligohegaeaaGreatDoorM03
import Derived.Test.YtjkgligohegaeaaGreatDoorM16
import Derived.Test.YtjkgligohegaeaaGreatDoorM15
set_option linter.unusedVariables false
set_option linter.unusedSimpArgs false
set_option linter.unusedSectionVars false
set_option maxRecDepth 20000
set_option maxHeartbeats 12800000
namespace Go.Proofs.YtjkgligohegaeaaGreatDoor.Ls
open Go.RowKit
theorem Kept.drewN (w:World) (n p B:Nat):Kept w (w.drewN n) p B:=⟨rfl,rfl,rfl,Nat.le_refl _,λ_ _ _ _=>rfl⟩
def Job.part (j:Job) (t:Times) (L now:Nat) (a b:Bool):Job:={ j with lease:=if a then L else j.lease,deadline:=if b then now+t.lease else j.deadline }
def Mid (w0:World) (p B:Nat) (js:List Job) (t:Times) (L now i:Nat) (j:Job) (a b:Bool) (w:World):Prop:=Kept w0 w p B∧TabAt w p B (js.set i (j.part t L now a b)) t L
def MidR (w0:World) (p B:Nat) (js:List Job) (t:Times) (L now i:Nat) (j:Job) (w1 w2:World):Prop :=
 ∀ a b,Mid w0 p B js t L now i j a b w1→∃ a' b',(a=true→a'=true)∧(b=true→b'=true)∧Mid w0 p B js t L now i j a' b' w2
theorem MidR.refl (w0:World) (p B:Nat) (js:List Job) (t:Times) (L now i:Nat) (j:Job) (w:World):MidR w0 p B js t L now i j w w:=λa b h=>⟨a,b,id,id,h⟩
theorem MidR.trans {w0:World} {p B:Nat} {js:List Job} {t:Times} {L now i:Nat} {j:Job} {w1 w2 w3:World} (h:MidR w0 p B js t L now i j w1 w2) (k:MidR w0 p B js t L now i j w2 w3):MidR w0 p B js t L now i j w1 w3:=λa b m=>by
 obtain⟨a1,b1,ha,hb,m1⟩:=h a b m
 obtain⟨a2,b2,ha2,hb2,m2⟩:=k a1 b1 m1
 exact⟨a2,b2,λx=>ha2 (ha x),λx=>hb2 (hb x),m2⟩
section
variable {w0 w:World} {p B:Nat} {js:List Job} {t:Times} {L now i:Nat} {j:Job} {a b:Bool}
theorem Mid.get (h:Mid w0 p B js t L now i j a b w) (hi:i < js.length) (k:Nat) (hk:k < 5):w.cell? ⟨B,i*5+k,none⟩=(j.part t L now a b).cells[k]?:=by
 have:=h.2.cellBody i (by simpa using hi) k hk
 simpa using this
theorem Mid.one (h:Mid w0 p B js t L now i j a b w) (hi:i < js.length) (hL:L < 18446744073709551616):Mid w0 p B js t L now i j true b (w.setCell ⟨B,i*5+1,none⟩ (.int .u64 L)):=by
 refine⟨h.1.trans (Kept.setCell _ _ _ _ _ (.inr rfl)),?_⟩
 have hf:=h.2.fits (j.part t L now a b) (List.mem_iff_getElem.2 ⟨i,by simpa using hi,by simp⟩)
 have:=h.2.setJob i (by simpa using hi) 1 (by omega) (j.part t L now true b) (.int .u64 L) (by simp[Job.cells,Job.part]) ⟨by simpa [Job.part] using hL,by simpa [Job.part] using hf.deadline,by simpa [Job.part] using hf.tries,by simpa [Job.part] using hf.ready⟩
 simpa only[List.set_set] using this
theorem Mid.two (h:Mid w0 p B js t L now i j a b w) (hi:i < js.length) (hD:now+t.lease < 18446744073709551616):Mid w0 p B js t L now i j a true (w.setCell ⟨B,i*5+2,none⟩ (.int .u64 (now+t.lease:Nat))):=by
 refine⟨h.1.trans (Kept.setCell _ _ _ _ _ (.inr rfl)),?_⟩
 have hf:=h.2.fits (j.part t L now a b) (List.mem_iff_getElem.2 ⟨i,by simpa using hi,by simp⟩)
 have:=h.2.setJob i (by simpa using hi) 2 (by omega) (j.part t L now a true) (.int .u64 (now+t.lease:Nat)) (by simp[Job.cells,Job.part]) ⟨by simpa [Job.part] using hf.lease,by simpa [Job.part] using hD,by simpa [Job.part] using hf.tries,by simpa [Job.part] using hf.ready⟩
 simpa only[List.set_set] using this
theorem Mid.three (h:Mid w0 p B js t L now i j true true w) (hi:i < js.length) (m:Nat) (hm:m≤64):Kept w0 (w.setCell ⟨B,i*5+3,none⟩ (.int .i64 m)) p B∧TabAt (w.setCell ⟨B,i*5+3,none⟩ (.int .i64 m)) p B (js.set i { j with lease:=L,deadline:=now+t.lease,tries:=m }) t L:=by
 refine⟨h.1.trans (Kept.setCell _ _ _ _ _ (.inr rfl)),?_⟩
 have hf:=h.2.fits (j.part t L now true true) (List.mem_iff_getElem.2 ⟨i,by simpa using hi,by simp⟩)
 have:=h.2.setJob i (by simpa using hi) 3 (by omega) { j with lease:=L,deadline:=now+t.lease,tries:=m } (.int .i64 m) (by simp[Job.cells,Job.part]) ⟨hf.lease,hf.deadline,hm,hf.ready⟩
 simpa only[List.set_set] using this
end
def MidA (w0:World) (p B:Nat) (js:List Job) (t:Times) (L now i:Nat) (j:Job) (w:World):Prop:=∃ b',Mid w0 p B js t L now i j true b' w
def nextV (p B i last now D c m:Nat) (tl:Nat) (k:Nat):Value:=match k with
 |0|1|2|14|15|20|23|26=>.pointer (some ⟨B,i*5,none⟩)
 |3|4|8|9=>.pointer (some ⟨p,0,none⟩)
 |5=>.pointer (some ⟨p,4,none⟩)
 |6=>.int .u64 (last+1:Int)
 |7=>.int .u64 now
 |10|11=>.pointer (some ⟨p,1,none⟩)
 |12=>.int .u64 tl
 |13=>.int .u64 D
 |16|27=>.pointer (some ⟨B,i*5+3,none⟩)
 |17=>.int .i64 c
 |18=>.int .i64 (c+1:Int)
 |19=>.int .i64 m
 |21=>.pointer (some ⟨B,i*5+1,none⟩)
 |24=>.pointer (some ⟨B,i*5+2,none⟩)
 |_=>undef
def NextG (w0:World) (p B:Nat) (js:List Job) (t:Times) (last now i:Nat) (j:Job) (D c m:Nat) (k:Nat) (v:Value) (w:World):Prop:=match k with
 |22=>MidA w0 p B js t (last+1) now i j w
 |25=>Hd (Mid w0 p B js t (last+1) now i j true true w)
 |k=>v=nextV p B i last now D c m t.lease k
theorem NextG.stable {w0:World} {p B:Nat} {js:List Job} {t:Times} {last now i:Nat} {j:Job} {D c m:Nat} (k:Nat) (v:Value) (w1 w2:World) (h:NextG w0 p B js t last now i j D c m k v w1) (hR:MidR w0 p B js t (last+1) now i j w1 w2):NextG w0 p B js t last now i j D c m k v w2:=by
 unfold NextG at h⊢
 split at h
 ·obtain⟨b,h⟩:=h
  obtain⟨a',b',ha,hb,h2⟩:=hR _ _ h
  rw[ha rfl] at h2
  exact⟨b',h2⟩
 ·obtain⟨a',b',ha,hb,h2⟩:=hR _ _ h.o
  rw[ha rfl,hb rfl] at h2
  exact⟨h2⟩
 ·exact h
theorem minI (a c:Nat) (h:c=min (a+1) 64) (ts:Array TypeId) (t:TypeId) (w:World) :
  (Builtin.min_ ts t #[.int .i64 ((a:Int)+1),.int .i64 64]).run Tryz.prog w=.ok (.int .i64 (c:Int)) w:=by
 rw[run_min_int2]
 congr 2
 subst h
 split<;>omega
theorem next_some (p B:Nat) (js:List Job) (t:Times) (last now i:Nat) (w:World) (h:TabAt w p B js t last) (hn:now≤1099511627776) (hl:last < 18446744073709551615) (hf:firstFree js now=some i) (hi:i < js.length) :
  Calls Tryz.prog 64 #[.pointer (some ⟨p,0,none⟩),.int .u64 now] w λe w'=>e=.returned (.tuple #[.int .i64 i,.int .u64 (last+1),.bool true])∧Kept w w' p B∧TabAt w' p B (js.set i { js[i] with lease:=last+1,deadline:=now+t.lease,tries:=min (js[i].tries+1) 64 }) t (last+1):=by
 have hlt:=h.lt
 have c0:w.cell? ⟨p,0,none⟩=some (.slice (some ⟨B,0,none⟩) js.length js.length):=h.cellHead 0 (by omega)
 have c4:w.cell? ⟨p,4,none⟩=some (.int .u64 last):=h.cellHead 4 (by omega)
 have hne:¬w.heap.size=p:=by omega
 have hne2:¬p=w.heap.size:=by omega
 have h1:¬(1099511627776:Int) < (now:Int):=by omega
 have h2:((last:Int) == 18446744073709551615)=false:=beq_eq_false_iff_ne.2 (by omega)
 have H:=Hm h
 have HF:=Hm hf
 have HN:=Hm (And.intro hn hl)
 clear h hn hl hf
 go_enter Tryz.func64,Tryz.ntmps64
 go_wp2_with fail
 have hb1:Below w.heap.size w (w.alloc (.cells #[.int .u64 now] 22)):=(Below.refl _ _).alloc (Nat.le_refl _) _
 have hy:=index_any p B js t last now w.heap.size _ (H.o.old hb1) (cell_new w (.int .u64 now) 22)
 rw[HF.o] at hy
 have HB:=Hm hb1
 clear hb1
 refine hy.mono ?_
 clear hy
 rintro e w2 ⟨rfl,hb2⟩
 have hcn:w2.cell? ⟨w.heap.size,0,none⟩=some (.int .u64 now):=(hb2.cell (p:=⟨w.heap.size,0,none⟩) (by simp)).trans (cell_new w (.int .u64 now) 22)
 have HB2:Hd (Below w.heap.size w w2):=⟨HB.o.trans (hb2.mono HB.o.size)⟩
 have H2:Hd (TabAt w2 p B js t last):=⟨H.o.old HB2.o⟩
 clear hb2 c0 c4
 have c0:w2.cell? ⟨p,0,none⟩=some (.slice (some ⟨B,0,none⟩) js.length js.length):=H2.o.cellHead 0 (by omega)
 have c4:w2.cell? ⟨p,4,none⟩=some (.int .u64 last):=H2.o.cellHead 4 (by omega)
 have f4:=H2.o.freeHead 4
 have hwr:IntKind.u64.wrap ((last:Int)+1)=((last+1:Nat):Int):=by rw[show ((last:Int)+1)=((last+1:Nat):Int) from by omega];exact wrapU _ (by have:=HN.o.2;omega)
 have hneB:=H.o.ne
 rw[show firstV (some i)=(i:Int) from rfl]
 have hT:TabAt (w2.setCell ⟨p,4,none⟩ (.int .u64 (last+1:Nat))) p B js t (last+1):=H2.o.setLast (last+1) (by have:=HN.o.2;omega)
 have hKp:Kept w2 (w2.setCell ⟨p,4,none⟩ (.int .u64 (last+1:Nat))) p B:=Kept.setCell _ _ _ _ _ (.inl rfl)
 go_wp2_with fail
 obtain⟨w3,hw3⟩:∃ w3,w3=w2.setCell ⟨p,4,none⟩ (.int .u64 (last+1:Int)):=⟨_,rfl⟩
 rw[←hw3]
 have e3:w2.setCell ⟨p,4,none⟩ (.int .u64 (last+1:Nat))=w3:=by rw[hw3];rfl
 rw[e3] at hT hKp
 have HT:=Hm hT
 have HK:=Hm hKp
 have hM0:Mid w3 p B js t (last+1) now i js[i] false false w3.drew:=⟨Kept.drew _ _ _,by
  have e:js[i].part t (last+1) now false false=js[i]:=rfl
  rw[e,List.set_getElem_self]
  exact(HT.o.drewN 1)⟩
 have HM0:=Hm hM0
 have hcn3:w3.cell? ⟨w.heap.size,0,none⟩=some (.int .u64 now):=by
  unfold World.cell? at hcn⊢
  rw[HK.o.block w.heap.size ?_ hne (by omega)]
  ·exact hcn
  ·have:=HB2.o.size
   have:=World.block_lt_of_cell? w2 ⟨w.heap.size,0,none⟩ hcn
   exact this
 have HCN:=Hm hcn3
 clear hT hKp hM0 hcn3 hw3 e3 hcn c0 c4 f4 hwr
 obtain⟨b,hb⟩:∃ b,b=w.heap.size:=⟨_,rfl⟩
 rw[←hb] at HCN⊢
 have HBB:=Hm hb
 clear hb
 obtain⟨D,hD⟩:∃ D,D=now+t.lease:=⟨_,rfl⟩
 have hDb:D≤2199023255552:=by have:=HT.o.tl;have:=HN.o.1;omega
 have hsum:IntKind.u64.wrap ((now:Int)+(t.lease:Int))=(D:Int):=by rw[show ((now:Int)+(t.lease:Int))=(D:Int) from by omega];exact wrapU _ (by omega)
 obtain⟨c,hc⟩:∃ c,c=js[i].tries:=⟨_,rfl⟩
 have hcb:c≤64:=by rw[hc];exact(HT.o.fits _ (List.getElem_mem hi)).tries
 obtain⟨m,hm⟩:∃ m,m=min (c+1) 64:=⟨_,rfl⟩
 have HMM:=Hm (And.intro hm (And.intro hc (And.intro hD (And.intro hsum (And.intro hDb (And.intro hcb hi))))))
 clear hm hc hD hsum hDb hcb
 refine wp_region_rely_tail 28 (by kernel_rfl) (by kernel_rfl) (by kernel_rfl) (NextG w3 p B js t last now i js[i] D c m)
  (MidR w3 p B js t (last+1) now i js[i]) (MidR.refl _ _ _ _ _ _ _ _ _ _) (λw1 w2 w3 h1 h2=>h1.trans h2) NextG.stable (n:=74) (by kernel_rfl) rfl ?_ ?_
 ·simp only[Obl,List.take_succ_cons,List.take_zero]
  refine⟨?_,?_,?_,?_,?_,?_,?_,?_,?_,?_,?_,?_,?_,?_,?_,?_,?_,?_,?_,?_,?_,?_,?_,?_,?_,?_,?_,?_,trivial⟩
  all_goals
   intro vs w' hR hK
   simp[depsOf,Region.binds,putsOn,dstOf,Act.put,Known,seen,NextG,nextV] at hK⊢
  case refine_7 =>
   obtain⟨a1,b1,-,-,hM⟩:=hR _ _ HM0.o
   have c4:w'.cell? ⟨p,4,none⟩=some (.int .u64 (last+1:Int)):=hM.2.cellHead 4 (by omega)
   clear hM
   go_wp2
   exact⟨rfl,rfl,MidR.refl _ _ _ _ _ _ _ _ _ _,rfl⟩
  case refine_8 =>
   obtain⟨a1,b1,-,-,hM⟩:=hR _ _ HM0.o
   have cb:w'.cell? ⟨b,0,none⟩=some (.int .u64 now):=by
    have h:=HCN.o
    unfold World.cell? at h⊢
    have e:=HBB.o
    rw[hM.1.block b (World.block_lt_of_cell? w3 ⟨b,0,none⟩ HCN.o) (by omega) (by omega)]
    exact h
   clear hM
   go_wp2
   exact⟨rfl,rfl,MidR.refl _ _ _ _ _ _ _ _ _ _,rfl⟩
  case refine_13 =>
   obtain⟨a1,b1,-,-,hM⟩:=hR _ _ HM0.o
   have c1:w'.cell? ⟨p,1,none⟩=some (.int .u64 t.lease):=hM.2.cellHead 1 (by omega)
   clear hM
   go_wp2
   exact⟨rfl,rfl,MidR.refl _ _ _ _ _ _ _ _ _ _,rfl⟩
  case refine_14 =>
   have hsum:=HMM.o.2.2.2.1
   go_wp2
   exact⟨rfl,rfl,MidR.refl _ _ _ _ _ _ _ _ _ _,rfl⟩
  case refine_18 =>
   obtain⟨a1,b1,-,-,hM⟩:=hR _ _ HM0.o
   have c3:w'.cell? ⟨B,i*5+3,none⟩=some (.int .i64 c):=by rw[hM.get hi 3 (by omega),HMM.o.2.1];rfl
   clear hM
   go_wp2
   exact⟨rfl,rfl,MidR.refl _ _ _ _ _ _ _ _ _ _,rfl⟩
  case refine_19 =>
   have hcb:=HMM.o.2.2.2.2.2.1
   go_wp2
   exact⟨rfl,rfl,MidR.refl _ _ _ _ _ _ _ _ _ _,rfl⟩
  case refine_20 =>
   have hmin:=minI c m HMM.o.1
   go_wp2
   exact⟨rfl,rfl,MidR.refl _ _ _ _ _ _ _ _ _ _,rfl⟩
  case refine_23 =>
   obtain⟨a1,b1,-,-,hM⟩:=hR _ _ HM0.o
   have c1:w'.cell? ⟨B,i*5+1,none⟩=some (.int .u64 (js[i].part t (last+1) now a1 b1).lease):=hM.get hi 1 (by omega)
   have f1:=hM.2.freeBody (i*5+1)
   have HM:=Hm hM
   clear hM
   go_wp2
   exact⟨rfl,rfl,λa b h=>⟨true,b,λ_=>rfl,id,h.one hi (by have:=HN.o.2;omega)⟩,⟨b1,HM.o.one hi (by have:=HN.o.2;omega)⟩⟩
  case refine_26 =>
   obtain⟨b1,hM⟩:MidA w3 p B js t (last+1) now i js[i] w':=by simp only[hK]
   have c1:w'.cell? ⟨B,i*5+2,none⟩=some (.int .u64 (js[i].part t (last+1) now true b1).deadline):=hM.get hi 2 (by omega)
   have f1:=hM.2.freeBody (i*5+2)
   have HM:=Hm hM
   have hD:=HMM.o.2.2.1
   have hDb:=HMM.o.2.2.2.2.1
   subst hD
   clear hM
   go_wp2
   exact⟨rfl,rfl,λa b h=>⟨a,true,id,λ_=>rfl,h.two hi (by omega)⟩,⟨HM.o.two hi (by omega)⟩⟩
  all_goals
   go_wp2
   exact⟨rfl,rfl,MidR.refl _ _ _ _ _ _ _ _ _ _,rfl⟩
 ·intro vs w' hR hK
  simp[Known,List.range,List.range.loop,NextG,nextV] at hK
  simp[putsOn,dstOf,Act.put,List.range,List.range.loop]
  obtain⟨hM⟩:Hd (Mid w3 p B js t (last+1) now i js[i] true true w'):=by simp only[hK]
  obtain⟨h19,h27⟩:vs 19=.int .i64 m∧vs 27=.pointer (some ⟨B,i*5+3,none⟩):=by simp only[hK,and_self]
  clear hK hR
  have c3:w'.cell? ⟨B,i*5+3,none⟩=some (.int .i64 js[i].tries):=hM.get hi 3 (by omega)
  have f3:=hM.2.freeBody (i*5+3)
  have hM3:=hM.three hi m (by have:=HMM.o.1;omega)
  have HM:=Hm hM
  have HM3:=Hm hM3
  have c4:w'.cell? ⟨p,4,none⟩=some (.int .u64 (last+1:Int)):=hM.2.cellHead 4 (by omega)
  clear hM hM3
  go_wp2_with fail
  go_quiet (fail)
  go_wp2
  go_ret3
  refine⟨rfl,((((Kept.of_below HB2.o).trans HK.o).trans HM3.o.1).trans (Kept.drewN _ nq p B)),?_⟩
  have e1:m=min (js[i].tries+1) 64:=by rw[HMM.o.1,HMM.o.2.1]
  rw[←e1]
  exact HM3.o.2.drewN nq
end Go.Proofs.YtjkgligohegaeaaGreatDoor.Ls
namespace Go.Proofs.YtjkgligohegaeaaGreatDoor.Ls
open Go.RowKit
def Job.due (j:Job) (now:Nat):Bool:=j.lease != 0 && decide (j.deadline≤now)
def Job.aged (j:Job) (t:Times) (now:Nat):Job:=if j.due now then j.over t now else j
def agedTo (js:List Job) (t:Times) (now k:Nat):List Job:=(js.take k).map (·.aged t now)++js.drop k
def dueTo (js:List Job) (now k:Nat):List Nat:=(List.range k).filter λi=>match js[i]? with|some j=>j.due now|none=>false
theorem agedTo_length (js:List Job) (t:Times) (now k:Nat) (h:k≤js.length):(agedTo js t now k).length=js.length:=by
 simp[agedTo];omega
theorem agedTo_get (js:List Job) (t:Times) (now k:Nat) (h:k < js.length):(agedTo js t now k)[k]'(by rw[agedTo_length _ _ _ _ (by omega)];exact h)=js[k]:=by
 simp only[agedTo]
 rw[List.getElem_append_right (by simp;omega)]
 simp
 congr 1
 omega
theorem agedTo_succ (js:List Job) (t:Times) (now k:Nat) (h:k < js.length):agedTo js t now (k+1)=(agedTo js t now k).set k (js[k].aged t now):=by
 simp only[agedTo]
 rw[List.take_succ_eq_append_getElem h,List.set_append_right _ _ (by simp;omega)]
 have e:k-((js.take k).map (·.aged t now)).length=0:=by simp;omega
 rw[e,List.drop_eq_getElem_cons h]
 simp only[List.map_append,List.map_cons,List.map_nil,List.append_assoc,List.set_cons_zero,List.cons_append,List.nil_append]
theorem agedTo_keep (js:List Job) (t:Times) (now k:Nat) (h:k < js.length) (hd:js[k].due now=false):agedTo js t now (k+1)=agedTo js t now k:=by
 rw[agedTo_succ js t now k h]
 have e:js[k].aged t now=(agedTo js t now k)[k]'(by rw[agedTo_length _ _ _ _ (by omega)];exact h):=by rw[agedTo_get js t now k h];simp[Job.aged,hd]
 rw[e,List.set_getElem_self]
theorem dueTo_succ (js:List Job) (now k:Nat) (h:k < js.length):dueTo js now (k+1)=dueTo js now k++if js[k].due now then [k] else []:=by
 simp only[dueTo,List.range_succ,List.filter_append]
 congr 1
 simp[List.filter_cons,h]
theorem dueTo_le (js:List Job) (now k:Nat):(dueTo js now k).length≤k:=by
 have:=List.length_filter_le (λi=>match js[i]? with|some j=>j.due now|none=>false) (List.range k)
 simpa [dueTo] using this
def idxV (l:List Nat):List Value:=l.map λ(i:Nat)=>Value.int .i64 (i:Int)
theorem own_kept {w1 w2:World} {p B base n size:Nat} {e:TypeId} {v:Value} {xs:List Value} (h:w1.ownsRow base e size v n xs) (k:Kept w1 w2 p B) (hp:p < base) (hB:B < base):w2.ownsRow base e size v n xs:=by
 refine⟨h.1,h.2.imp id ?_⟩
 rintro ⟨g,cap,cur,e,hb,hh,rest⟩
 exact⟨g,cap,cur,e,hb,by rw[k.block g (Array.getElem?_eq_some_iff.1 hh).1 (by omega) (by omega)];exact hh,rest⟩
theorem Kept.grown {w w1 w2:World} {p B:Nat} {row:Option Nat} (h:Kept w w1 p B) (k:w1.grownBy w2 row) (hr:∀ r,row=some r→w.heap.size≤r):Kept w w2 p B :=
 ⟨k.os.trans h.os,k.tape.trans h.tape,k.output.trans h.output,Nat.le_trans h.size k.size,λb hb h1 h2 =>
  (k.block b (Nat.lt_of_lt_of_le hb h.size) (λe=>by have:=hr b e.symm;omega)).trans (h.block b hb h1 h2)⟩
theorem TabAt.grown {w w':World} {p B:Nat} {js:List Job} {t:Times} {last:Nat} {row:Option Nat} (h:TabAt w p B js t last) (k:w.grownBy w' row) (h1:some p≠row) (h2:some B≠row):TabAt w' p B js t last :=
 { h with head:=by rw[k.block p h.lt.1 h1];exact h.head,body:=by rw[k.block B h.lt.2 h2];exact h.body }
theorem infoInt:(Tryz.prog.info? 3).map (λi=>(i.zero,i.size,i.bytes))=some (some (.int .i64 0),1,8):=by kernel_rfl
def ExpR (w:World) (p B:Nat) (js:List Job) (t:Times) (last now:Nat) (v:Value) (k:Nat) (wr:World):Prop :=
 wr.ownsRow w.heap.size 3 1 v (dueTo js now k).length (idxV (dueTo js now k))∧Kept w wr p B∧TabAt wr p B (agedTo js t now k) t last
section
variable {w wr wz:World} {p B:Nat} {js:List Job} {t:Times} {last now:Nat} {v:Value} {k:Nat}
theorem ExpR.below (h:ExpR w p B js t last now v k wr) (hb:Below wr.heap.size wr wz):ExpR w p B js t last now v k wz :=
 ⟨h.1.kept (row:=none) ⟨hb.os,hb.tape,hb.output,hb.size,λk hk _=>hb.block k hk⟩ (by cases v.ownBlock<;>simp),h.2.1.trans (Kept.of_below hb),h.2.2.old hb⟩
theorem ExpR.keep (h:ExpR w p B js t last now v k wr) (hlt:k < js.length) (hd:js[k].due now=false):ExpR w p B js t last now v (k+1) wr:=by
 refine⟨?_,h.2.1,?_⟩
 ·rw[dueTo_succ js now k hlt,hd,if_neg (by simp),List.append_nil];exact h.1
 ·rw[agedTo_keep js t now k hlt hd];exact h.2.2
theorem ExpR.turn {w2 w3:World} {v':Value} {row:Option Nat} (h:ExpR w p B js t last now v k wr) (hlt:k < js.length) (hd:js[k].due now=true) (hp:p < w.heap.size) (hB:B < w.heap.size)
  (hk:Kept wr w2 p B) (ht:TabAt w2 p B ((agedTo js t now k).set k (js[k].over t now)) t last)
  (hown:w3.ownsRow w.heap.size 3 1 v' ((dueTo js now k).length+1) (idxV (dueTo js now k)++[.int .i64 k])) (hg:w2.grownBy w3 row) (hr:∀ r,row=some r→w.heap.size≤r):ExpR w p B js t last now v' (k+1) w3:=by
 refine⟨?_,(h.2.1.trans hk).grown hg hr,?_⟩
 ·rw[dueTo_succ js now k hlt,hd,if_pos rfl]
  simpa [idxV] using hown
 ·rw[agedTo_succ js t now k hlt]
  have e:js[k].aged t now=js[k].over t now:=by simp[Job.aged,hd]
  rw[e]
  exact ht.grown hg (λe=>by have:=hr p e.symm;omega) (λe=>by have:=hr B e.symm;omega)
end
theorem expire_in (p B:Nat) (js:List Job) (t:Times) (last now:Nat) (w:World) (h:TabAt w p B js t last) (hn:now≤1099511627776) :
  Calls Tryz.prog 63 #[.pointer (some ⟨p,0,none⟩),.int .u64 now] w λe w'=>Kept w w' p B∧TabAt w' p B (agedTo js t now js.length) t last ∧
   ∃ v,e=.returned v∧w'.ownsRow w.heap.size 3 1 v (dueTo js now js.length).length (idxV (dueTo js now js.length)):=by
 have c0:w.cell? ⟨p,0,none⟩=some (.slice (some ⟨B,0,none⟩) js.length js.length):=h.cellHead 0 (by omega)
 have hlt:=h.lt
 have hsm:=h.small
 have hn':¬(1099511627776:Int) < (now:Int):=by omega
 obtain⟨i0,hi,hz0,hz1,hz2⟩:=info_parts infoInt
 have HI:=Hm (And.intro hi (And.intro hz0 (And.intro hz1 hz2)))
 have H:=Hm h
 have HN:=Hm (And.intro hn hlt)
 clear h hn hi hz0 hz1 hz2 hlt
 go_enter Tryz.func63,Tryz.ntmps63
 go_wp2_with fail
 go_loopw [5,19] (λv i wr=>∃ k:Nat,k≤js.length∧i=.int .i64 k∧ExpR w p B js t last now v k wr) (λ_ i _=>js.length-(intOf i).toNat)
 case atStart=>exact⟨0,Nat.zero_le _,rfl,World.ownsRow_nil w w.heap.size 3 1,Kept.refl _ _ _,(by rw[show agedTo js t now 0=js from rfl];exact H.o)⟩
 case round =>
  obtain⟨k,hk,rfl,hE⟩:=hrel
  have HE:=Hm hE
  clear hE
  have hlen:=agedTo_length js t now k hk
  by_cases hlt:k < js.length
  ·have hk':k < (agedTo js t now k).length:=by omega
   have hgk:=agedTo_get js t now k hlt
   have d0:wr.cell? ⟨B,k*5,none⟩=some (.bool js[k].done):=by rw[←hgk];exact HE.o.2.2.cellBody k hk' 0 (by omega)
   have d1:wr.cell? ⟨B,k*5+1,none⟩=some (.int .u64 js[k].lease):=by rw[←hgk];exact HE.o.2.2.cellBody k hk' 1 (by omega)
   have d2:wr.cell? ⟨B,k*5+2,none⟩=some (.int .u64 js[k].deadline):=by rw[←hgk];exact HE.o.2.2.cellBody k hk' 2 (by omega)
   have d3:wr.cell? ⟨B,k*5+3,none⟩=some (.int .i64 js[k].tries):=by rw[←hgk];exact HE.o.2.2.cellBody k hk' 3 (by omega)
   have d4:wr.cell? ⟨B,k*5+4,none⟩=some (.int .u64 js[k].ready):=by rw[←hgk];exact HE.o.2.2.cellBody k hk' 4 (by omega)
   have HL:=Hm (And.intro hlen hgk)
   clear hlen hgk
   have hsz:=HE.o.2.1.size
   by_cases h0:js[k].lease=0
   ·have h0':((js[k].lease:Int) != 0)=false:=by simp[h0]
    have HD:Hd (js[k].due now=false):=⟨by simp[Job.due,h0]⟩
    clear h0
    go_wp2
    go_roundw
    case rel=>exact⟨k+1,by omega,by go_num,(HE.o.keep hlt HD.o).below ((Below.refl _ _).alloc (Nat.le_refl _) _)⟩
    case measure=>simp[intOf];omega
   ·have h0':((js[k].lease:Int) != 0)=true:=by simp[h0]
    by_cases h1:js[k].deadline≤now
    ·have h1':(js[k].deadline:Int)≤(now:Int):=by omega
     have HD:Hd (js[k].due now=true):=⟨by simp[Job.due,h0,h1]⟩
     clear h0 h1
     go_wp2_with fail
     have hbw:Below wr.heap.size wr (wr.alloc (.cells #[.bool js[k].done,.int .u64 js[k].lease,.int .u64 js[k].deadline,.int .i64 js[k].tries,.int .u64 js[k].ready] 53)):=(Below.refl _ _).alloc (Nat.le_refl _) _
     have HE1:=Hm (HE.o.below hbw)
     clear hbw
     have hy:=back_any p B (agedTo js t now k) t last k now _ HE1.o.2.2 hk' HN.o.1
     rw[HL.o.2] at hy
     refine hy.mono ?_
     clear hy
     rintro e w2 ⟨⟨ve,rfl⟩,ht,hkp⟩
     have HT2:=Hm ht
     have HK2:=Hm hkp
     clear ht hkp
     have HO2:=Hm (own_kept HE1.o.1 HK2.o HN.o.2.1 HN.o.2.2)
     have hle:=dueTo_le js now k
     have HS2:Hd (w.heap.size≤w2.heap.size):=⟨Nat.le_trans HE1.o.2.1.size HK2.o.size⟩
     clear d0 d1 d2 d3 d4
     go_wp2_with (first
      |(at_builtin;refine wpList_append_row rfl (.tmp 37) (.tmp 39) 29 rfl w.heap.size 3 i0 (.int .i64 0) 8 Tryz.underlying29 HI.o.1 HI.o.2.1 HI.o.2.2.1 HI.o.2.2.2 rfl _ (dueTo js now k).length (idxV (dueTo js now k)) rfl (HO2.o.alloc _) (some ⟨w2.heap.size,0,none⟩) 1 1 [Value.int .i64 k] rfl rfl (row_new _ _ _ _) ?x0 ?x1 ?x2 ?x3 ?x4))
     case x0=>intro u hu;simp at hu;subst hu;rfl
     case x1=>omega
     case x2=>unfold maxLen;omega
     case x3=>have:=HS2.o;simp;omega
     case x4 =>
      intro v3 w3 ho3 hg3
      have hk3:Kept (wr.alloc (.cells #[.bool js[k].done,.int .u64 js[k].lease,.int .u64 js[k].deadline,.int .i64 js[k].tries,.int .u64 js[k].ready] 53)) (w2.alloc (.cells #[Value.int .i64 k] 3)) p B:=HK2.o.trans (Kept.of_below ((Below.refl _ _).alloc (Nat.le_refl _) _))
      have ht3:=HT2.o.old ((Below.refl w2.heap.size w2).alloc (Nat.le_refl _) (.cells #[Value.int .i64 k] 3))
      have HE3:=Hm (HE1.o.turn hlt HD.o HN.o.2.1 HN.o.2.2 hk3 ht3 ho3 hg3 (λr hr=>(HO2.o.lt r hr).1))
      clear hk3 ht3 ho3 hg3
      go_wp2
      go_roundw
      case rel=>exact⟨k+1,by omega,by go_num,HE3.o⟩
      case measure=>simp[intOf];omega
    ·have h1':¬(js[k].deadline:Int)≤(now:Int):=by omega
     have HD:Hd (js[k].due now=false):=⟨by simp[Job.due,h1]⟩
     clear h0 h1
     go_wp2
     go_roundw
     case rel=>exact⟨k+1,by omega,by go_num,(HE.o.keep hlt HD.o).below ((Below.refl _ _).alloc (Nat.le_refl _) _)⟩
     case measure=>simp[intOf];omega
  ·obtain rfl:k=js.length:=by omega
   clear hlen
   go_wp2
   go_ret
   exact⟨HE.o.2.1,HE.o.2.2,_,rfl,HE.o.1⟩
end Go.Proofs.YtjkgligohegaeaaGreatDoor.Ls
namespace Go.Proofs.YtjkgligohegaeaaGreatDoor.Ls
open Go.RowKit
theorem TabAt.row {w:World} {p B:Nat} {js:List Job} {t:Times} {last:Nat} (h:TabAt w p B js t last):Row w (some ⟨B,0,none⟩) (flat js) :=
 row_block h.body (by intro j hj;simp[hj])
def JobsAt (w:World) (base:Nat) (v:Value) (js:List Job):Prop:=w.ownsRow base 53 5 v js.length (flat js)
theorem infoJobZ:∃ i,Tryz.prog.info? 53=some i∧i.zero=some (.agg #[.bool false,.int .u64 0,.int .u64 0,.int .i64 0,.int .u64 0])∧i.size=5∧i.bytes=40:=info_parts infoJob
theorem clone_any (B:Nat) (js:List Job) (w:World) (h:Row w (some ⟨B,0,none⟩) (flat js)) (hs:js.length≤16) :
  Calls Tryz.prog 76 #[.slice (some ⟨B,0,none⟩) js.length js.length] w λe w'=>Below w.heap.size w w'∧∃ v,e=.returned v∧JobsAt w' w.heap.size v js:=by
 have H:=Hm h
 obtain⟨i0,hi,hz0,hz1,hz2⟩:=infoJobZ
 have HI:=Hm (And.intro hi (And.intro hz0 (And.intro hz1 hz2)))
 have HS:=Hm hs
 clear h hi hz0 hz1 hz2 hs
 go_enter Tryz.func76,Tryz.ntmps76
 have he:=λ(w:World)=>Lib.run_eql_slice_nil (P:=Tryz.prog) w 46 53 (some ⟨B,0,none⟩) js.length js.length 0 0 Tryz.underlying46
 simp only[Option.isNone_some] at he
 have hown:(w.alloc (.cells #[] 53)).ownsRow w.heap.size 53 5 (.slice (some ⟨w.heap.size,0,none⟩) 0 0) 0 [] :=
  ⟨rfl,.inr ⟨w.heap.size,0,#[],rfl,Nat.le_refl _,heap_new _ _,Nat.le_refl _,Nat.zero_le _,rfl,rfl⟩⟩
 have HO:=Hm hown
 clear hown
 go_wp2_with (first
  |(at_builtin;refine wpList_append_emptyN rfl (.tmp 5) (.tmp 6) 46 rfl w.heap.size 53 i0 (.agg #[.bool false,.int .u64 0,.int .u64 0,.int .i64 0,.int .u64 0]) 5 40 Tryz.underlying46 HI.o.1 HI.o.2.1 HI.o.2.2.1 HI.o.2.2.2 rfl (by omega) (some ⟨w.heap.size,0,none⟩) rfl HO.o (some ⟨B,0,none⟩) js.length js.length (flat js) rfl (flat_length js) (H.o.below ((Below.refl _ _).alloc (Nat.le_refl _) _)) ?x1 ?x2 ?x3 ?x4))
 case x1=>have:=HS.o;omega
 case x2=>have:=HS.o;unfold maxLen;omega
 case x3=>simp
 case x4 =>
  intro v' w' hb hown
  have HB:=Hm hb
  have HW:=Hm hown
  clear hb hown
  go_wp2
  go_ret
  exact⟨((Below.refl w.heap.size w).alloc (Nat.le_refl _) (.cells #[] 53)).trans (HB.o.mono (by simp)),_,rfl,HW.o⟩
theorem jobs_any (p B:Nat) (js:List Job) (t:Times) (last:Nat) (w:World) (h:TabAt w p B js t last) :
  Calls Tryz.prog 38 #[.pointer (some ⟨p,0,none⟩)] w λe w'=>Below w.heap.size w w'∧∃ v,e=.returned v∧JobsAt w' w.heap.size v js:=by
 have c0:w.cell? ⟨p,0,none⟩=some (.slice (some ⟨B,0,none⟩) js.length js.length):=h.cellHead 0 (by omega)
 have H:=Hm h
 clear h
 go_enter Tryz.func38,Tryz.ntmps38
 go_wp2_with fail
 have hy:=clone_any B js w H.o.row H.o.small
 refine hy.mono ?_
 clear hy
 rintro e w' ⟨hb,v,rfl,hj⟩
 have HB:=Hm (And.intro hb hj)
 clear hb hj
 go_wp2
 go_ret
 exact⟨HB.o.1,v,rfl,HB.o.2⟩
theorem JobsAt.form {w:World} {base:Nat} {v:Value} {js:List Job} (h:JobsAt w base v js) (hn:0 < js.length):∃ g c,v=.slice (some ⟨g,0,none⟩) js.length c∧base≤g∧js.length≤c ∧
  ∀ i (hi:i < js.length) k (hk:k < 5),w.cell? ⟨g,i*5+k,none⟩=js[i].cells[k]?:=by
 rcases h.2 with ⟨_,h⟩|⟨g,cap,cur,e,hb,hh,hn2,_,hs,ht⟩
 ·omega
 ·refine⟨g,cap,e,hb,hn2,λi hi k hk=>?_⟩
  unfold World.cell?
  rw[hh]
  have hlt:i*5+k < js.length*5:=by omega
  rw[←flat_get js i hi k hk,←ht]
  simp
  rw[List.getElem?_take,if_pos hlt]
  simp
end Go.Proofs.YtjkgligohegaeaaGreatDoor.Ls
namespace Go.Proofs.YtjkgligohegaeaaGreatDoor
open Go.RowKit
structure Turn (w w':World) (ow ow':Nat→Nat) (I:Nat→Prop):Prop where
 only:Only w w' (λb=>I (ow b))
 old:∀ b,b < w.heap.size→ow' b=ow b
 zero:¬I 0
section
variable {w w':World} {ow ow':Nat→Nat} {I:Nat→Prop}
theorem Turn.heap (h:Turn w w' ow ow' I) {b:Nat} {o:Obj} (hb:w.heap[b]?=some o) (hI:¬I (ow b)):w'.heap[b]?=some o:=h.only.heap hb hI
theorem Turn.own (h:Turn w w' ow ow' I) {b:Nat} (hb:b < w.heap.size):ow' b=ow b:=h.old b hb
theorem Turn.stays (h:Turn w w' ow ow' I):Stays w w' (λb=>ow b=0) (λb=>ow' b=0):=λb ho hb=>⟨(h.old b hb).trans ho,h.only.block b hb (by rw[show ow b=0 from ho];exact h.zero)⟩
theorem Turn.row (h:Turn w w' ow ow' I) {A:Option Addr} {vs:List Value} (hr:Row w A vs) (hA:∀ a,A=some a→ow a.block=0):Row w' A vs:=row_only hr h.only (λa ha=>by rw[hA a ha];exact h.zero)
end
structure FSt where
 regs:Nat
 workers:Nat
 t:Ls.Times
 room:Nat
 box:Nat
 fs:List Func
 now:Nat
 js:List (Nat × List UInt8)
structure Hds where
 pf:Nat
 A:Option Addr
 c:Nat
 lv:Value
 bv:Value
 bp:Value
 tp:Value
 bs:List (Nat × Nat)
 bxs:List (List Value)
def farmCells (st:FSt) (h:Hds):Array Value:=#[.int .i64 st.regs,.int .i64 st.workers,.int .u64 st.t.lease,.int .u64 st.t.wait,.int .u64 st.t.most,.int .i64 st.room,.int .i64 st.box,h.lv,.int .u64 st.now,.pointer (some ⟨h.pf,0,none⟩),h.bp,h.tp,h.bv]
def LetterAt (w:World) (ow:Nat→Nat) (v:Value) (l:List UInt8):Prop:=∃ A c,v=.slice A l.length c∧Bytes w A l∧l.length≤c∧(0 < l.length→∀ a,A=some a→ow a.block=0)
structure Farm (w:World) (ow:Nat→Nat) (x:Nat) (st:FSt) (h:Hds) (lt:List (List (List UInt8))):Prop where
 head:w.heap[x]?=some (.cells (farmCells st h) 114 (0,0))
 ox:ow x=5
 funcs:Kd.SK kFunc w (λb=>ow b=0) st.fs h.lv
 file:FileAt w h.pf st.room (laid (recsOf st.js)) h.A h.c
 of_:ow h.pf=2
 oA:0 < (laid (recsOf st.js)).length→∀ a,h.A=some a→ow a.block=0
 row:∃ Ab cb,h.bv=.slice Ab h.bs.length cb∧h.bs.length≤cb∧Row w Ab (h.bs.map λp=>.pointer (some ⟨p.1,0,none⟩))∧∀ a,Ab=some a→ow a.block=0
 boxes:∀ i (h1:i < h.bs.length),Bx.BoxAt w h.bs[i].1 h.bs[i].2 162 st.box (h.bxs.getD i [])∧ow h.bs[i].1=0∧ow h.bs[i].2=10+i
 letters:∀ i,i < h.bs.length→(h.bxs.getD i []).length=(lt.getD i []).length∧∀ j (h1:j < (h.bxs.getD i []).length) (h2:j < (lt.getD i []).length),LetterAt w ow (h.bxs.getD i [])[j] (lt.getD i [])[j]
 lens:h.bs.length=st.workers+1∧h.bxs.length=st.workers+1∧lt.length=st.workers+1
 new:∀ b,w.heap.size≤b→ow b=0
structure FarmUp (w:World) (ow:Nat→Nat) (st:FSt) (h:Hds) (jobs:List Ls.Job) (last:Nat):Prop where
 ex:∃ pb base ok kv vv pt Bt,h.bp=.pointer (some ⟨pb,0,none⟩)∧h.tp=.pointer (some ⟨pt,0,none⟩)∧BookAt w pb h.pf base ok (keysOf st.js) (valsOf st.js) kv vv (laid (recsOf st.js)).length∧Ls.TabAt w pt Bt jobs st.t last ∧
  ow pb=3∧(∀ g,kv.ownBlock=some g→ow g=3)∧(∀ g,vv.ownBlock=some g→ow g=3)∧(∀ b,ok b→ow b=0)∧ow pt=4∧ow Bt=4
 len:jobs.length=st.fs.length
 done:∀ i (hi:i < jobs.length),jobs[i].done=decide (i∈st.js.map (·.1))
section
variable {w w':World} {ow ow':Nat→Nat} {x:Nat} {st:FSt} {h:Hds} {lt:List (List (List UInt8))} {I:Nat→Prop}
theorem LetterAt.turn {v:Value} {l:List UInt8} (hl:LetterAt w ow v l) (t:Turn w w' ow ow' I):LetterAt w' ow' v l:=by
 obtain⟨A,c,rfl,hb,hc,hA⟩:=hl
 by_cases h0:0 < l.length
 ·refine⟨A,c,rfl,t.row hb (hA h0),hc,λ_ a ha=>?_⟩
  obtain⟨b,off,e,hcl⟩:=hb 0 (by simpa using h0)
  rw[ha] at e
  cases e
  rw[t.old _ (World.block_lt_of_cell? w _ hcl)]
  exact hA h0 _ ha
 ·obtain rfl:l=[]:=List.eq_nil_of_length_eq_zero (by omega)
  exact⟨A,c,rfl,Bytes.nil _ _,hc,λh=>absurd h (by simp)⟩
theorem row_lt {A:Option Addr} {vs:List Value} (hr:Row w A vs) (h0:0 < vs.length):∀ a,A=some a→a.block < w.heap.size:=λa ha=>by
 obtain⟨b,off,e,hc⟩:=hr 0 h0
 rw[ha] at e
 cases e
 exact World.block_lt_of_cell? w _ hc
theorem Bx.BoxAt.turn {p c room T:Nat} {xs:List Value} (hb:Bx.BoxAt w p c T room xs) (t:Turn w w' ow ow' I) (hp:¬I (ow p)) (hc:¬I (ow c)):Bx.BoxAt w' p c T room xs:=by
 obtain⟨⟨fz,h1⟩,⟨s,r,h2⟩,h3,h4⟩:=hb
 exact⟨⟨fz,t.heap h1 hp⟩,⟨s,r,t.heap h2 hc⟩,h3,h4⟩
theorem Ls.TabAt.turn {p B:Nat} {js:List Ls.Job} {tt:Ls.Times} {last:Nat} (hb:Ls.TabAt w p B js tt last) (t:Turn w w' ow ow' I) (hp:¬I (ow p)) (hB:¬I (ow B)):Ls.TabAt w' p B js tt last :=
 { hb with head:=t.heap hb.head hp,body:=t.heap hb.body hB }
theorem Farm.turn (f:Farm w ow x st h lt) (t:Turn w w' ow ow' I) (hI:∀ n,I n→n≠5∧n≠2∧n < 10) (hn:∀ b,w'.heap.size≤b→ow' b=0):Farm w' ow' x st h lt:=by
 have z:=t.zero
 have i5:¬I (ow x):=by rw[f.ox];exact λe=>(hI _ e).1 rfl
 have i2:¬I (ow h.pf):=by rw[f.of_];exact λe=>(hI _ e).2.1 rfl
 have hpf:=hlt f.file.head
 refine⟨t.heap f.head i5,(t.own (hlt f.head)).trans f.ox,f.funcs.stay t.stays,f.file.only' t.only i2 (λh0 a ha=>by rw[f.oA h0 a ha];exact z),(t.own hpf).trans f.of_,λh0 a ha=>?_,?_,λi h1=>?_,λi hi=>⟨(f.letters i hi).1,λj h1 h2=>((f.letters i hi).2 j h1 h2).turn t⟩,f.lens,hn⟩
 ·rw[t.own (row_lt f.file.sure (by simpa using h0) a ha)]
  exact f.oA h0 a ha
 ·obtain⟨Ab,cb,e1,e2,e3,e4⟩:=f.row
  refine⟨Ab,cb,e1,e2,t.row e3 e4,λa ha=>?_⟩
  rw[t.own (row_lt e3 (by rw[List.length_map,f.lens.1];omega) a ha)]
  exact e4 a ha
 ·obtain⟨b1,b2,b3⟩:=f.boxes i h1
  have hl1:h.bs[i].1 < w.heap.size:=b1.lt
  have hl2:h.bs[i].2 < w.heap.size:=b1.chan.lt
  exact⟨b1.turn t (by rw[b2];exact z) (by rw[b3];exact λe=>by have:=(hI _ e).2.2;omega),(t.own hl1).trans b2,(t.own hl2).trans b3⟩
theorem FarmUp.turn {jobs:List Ls.Job} {last:Nat} (u:FarmUp w ow st h jobs last) (t:Turn w w' ow ow' I) (hI:∀ n,I n→n≠3∧n≠4):FarmUp w' ow' st h jobs last:=by
 obtain⟨⟨pb,base,ok,kv,vv,pt,Bt,e1,e2,hb,ht,o1,o2,o3,o4,o5,o6⟩,hl,hd⟩:=u
 have z:=t.zero
 have i3:∀ b,ow b=3→¬I (ow b):=λb hb=>by rw[hb];exact λe=>(hI _ e).1 rfl
 have i4:∀ b,ow b=4→¬I (ow b):=λb hb=>by rw[hb];exact λe=>(hI _ e).2 rfl
 have htl:=ht.lt
 refine⟨⟨pb,base,ok,kv,vv,pt,Bt,e1,e2,hb.only t.only (i3 _ o1) (λg hg=>i3 _ (o2 g hg)) (λg hg=>i3 _ (o3 g hg)) (λb hb=>by rw[o4 b hb];exact z),ht.turn t (i4 _ o5) (i4 _ o6),(t.own (hlt hb.head)).trans o1,
  λg hg=>(t.own (hb.tab.krow.lt g hg).2).trans (o2 g hg),λg hg=>(t.own (hb.tab.vrow.lt_own g hg).2).trans (o3 g hg),λb hb'=>(t.own (hb.tab.vrow.lt b hb')).trans (o4 b hb'),(t.own htl.1).trans o5,(t.own htl.2).trans o6⟩,hl,hd⟩
theorem Turn.bel (hb:Bel w w') (ow:Nat→Nat):Turn w w' ow ow (λ_=>False):=⟨Only.bel hb,λ_ _=>rfl,λh=>h⟩
theorem Farm.bel (f:Farm w ow x st h lt) (hb:Bel w w'):Farm w' ow x st h lt:=f.turn (Turn.bel hb ow) (λ_ h=>h.elim) (λb hb'=>f.new b (Nat.le_trans hb.size hb'))
theorem FarmUp.bel {jobs:List Ls.Job} {last:Nat} (u:FarmUp w ow st h jobs last) (hb:Bel w w'):FarmUp w' ow st h jobs last:=u.turn (Turn.bel hb ow) (λ_ h=>h.elim)
end
end Go.Proofs.YtjkgligohegaeaaGreatDoor
