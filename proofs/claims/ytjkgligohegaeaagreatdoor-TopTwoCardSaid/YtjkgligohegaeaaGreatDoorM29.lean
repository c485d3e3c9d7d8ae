/- Texts of the top seat, merged: what the claim uses of them. -/
import Derived.Lib.BufferRead
import Derived.Test.YtjkgligohegaeaaGreatDoorM28
import Derived.Test.YtjkgligohegaeaaGreatDoorM23
import Derived.Test.YtjkgligohegaeaaGreatDoorM25
set_option linter.unusedVariables false
set_option linter.unusedSimpArgs false
set_option linter.unusedSectionVars false
set_option maxRecDepth 20000
set_option maxHeartbeats 12800000
namespace Go.Proofs.YtjkgligohegaeaaGreatDoor
open Go.RowKit
def TookPost (w:World) (ow:Nat→Nat) (x:Nat) (st:FSt) (h:Hds) (lt:List (List (List UInt8))) (jobs:List Ls.Job) (last:Nat) (w':World):Prop :=
 ∃ ow' h',Turn w w' ow ow' (λn=>n≠0)∧Farm w' ow' x st h' lt∧FarmUp w' ow' st h' jobs last
theorem FarmUp.boxes {w:World} {ow:Nat→Nat} {st:FSt} {h:Hds} {jobs:List Ls.Job} {last:Nat} (u:FarmUp w ow st h jobs last) (b:List (List Value)):FarmUp w ow st { h with bxs:=b } jobs last:=⟨u.ex,u.len,u.done⟩
theorem judge_in1 (w:World) (ow:Nat→Nat) (x:Nat) (st:FSt) (h:Hds) (lt:List (List (List UInt8))) (f:Farm w ow x st h lt) (jobs:List Ls.Job) (last:Nat) (u:FarmUp w ow st h jobs last) (job lease:Nat) (c:Code) (cert:List (List PairV)) (ht:TellOk st job lease c cert) (hd:job∈st.js.map (·.1))
  (A:Option Addr) (ca:Nat) (vs:List Value) (rest:List (List UInt8)) (hv:h.bxs.getD 0 []=.slice A (letterOf job lease c cert).length ca :: vs) (hl:lt.getD 0 []=letterOf job lease c cert :: rest) (h0:0 < h.bs.length) (w1:World) (hs:Bx.Step w w1 h.bs[0].2 st.box vs) :
  Calls Tryz.prog 67 #[.pointer (some ⟨x,0,none⟩),.slice A (letterOf job lease c cert).length ca] w1 λe w'=>e=.returned (.tuple #[.int .i64 job,.slice none 0 0,.int .i64 61])∧TookPost w ow x st h (lt.set 0 rest) jobs last w':=by
 obtain⟨t1,f1,l1⟩:=took f h0 _ vs _ rest hv hl hs
 have u1:=(u.turn t1 (λn e=>by omega)).boxes (h.bxs.set 0 vs)
 obtain⟨A',c',e,hB,hC,-⟩:=l1
 injection e with e1 e2 e3
 subst e1 e3
 refine(judge_done w1 ow x st _ _ f1 jobs last u1 job lease c cert ht hd A ca hB hC).mono ?_
 rintro e w2 ⟨rfl,hb⟩
 exact⟨rfl,ow,_,(t1.trans (Turn.bel hb ow)).coarse,f1.bel hb,u1.bel hb⟩
theorem judge_in2 (w:World) (ow:Nat→Nat) (x:Nat) (st:FSt) (h:Hds) (lt:List (List (List UInt8))) (f:Farm w ow x st h lt) (jobs:List Ls.Job) (last:Nat) (u:FarmUp w ow st h jobs last) (job lease:Nat) (c:Code) (cert:List (List PairV)) (ht:TellOk st job lease c cert) (hd:job∉st.js.map (·.1))
  (A:Option Addr) (ca:Nat) (vs:List Value) (rest:List (List UInt8)) (hv:h.bxs.getD 0 []=.slice A (letterOf job lease c cert).length ca :: vs) (hl:lt.getD 0 []=letterOf job lease c cert :: rest) (h0:0 < h.bs.length) (w1:World) (hs:Bx.Step w w1 h.bs[0].2 st.box vs) :
  Calls Tryz.prog 67 #[.pointer (some ⟨x,0,none⟩),.slice A (letterOf job lease c cert).length ca] w1 λe w'=>∃ V,e=.returned (.tuple #[.int .i64 job,V,.int .i64 0])∧NewB w w' V (encCode c)∧Turn w w' ow ow (λn=>n≠0)∧Farm w' ow x st { h with bxs:=h.bxs.set 0 vs } (lt.set 0 rest)∧FarmUp w' ow st { h with bxs:=h.bxs.set 0 vs } jobs last:=by
 obtain⟨t1,f1,l1⟩:=took f h0 _ vs _ rest hv hl hs
 have u1:=(u.turn t1 (λn e=>by omega)).boxes (h.bxs.set 0 vs)
 obtain⟨A',c',e,hB,hC,-⟩:=l1
 injection e with e1 e2 e3
 subst e1 e3
 refine(judge_ok w1 ow x st _ _ f1 jobs last u1 job lease c cert ht hd A ca hB hC).mono ?_
 rintro e w2 ⟨V,rfl,hb,hV⟩
 obtain⟨A2,c2,g1,g2,g3,g4⟩:=hV
 exact⟨V,rfl,⟨A2,c2,g1,g2,g3,λa ha=>Nat.le_trans t1.only.size (g4 a ha)⟩,(t1.trans (Turn.bel hb ow)).coarse,f1.bel hb,u1.bel hb⟩
theorem take_done (w:World) (ow:Nat→Nat) (x:Nat) (st:FSt) (h:Hds) (lt:List (List (List UInt8))) (f:Farm w ow x st h lt) (hw3:st.workers≤3) (jobs:List Ls.Job) (last:Nat) (u:FarmUp w ow st h jobs last) (job lease:Nat) (c:Code) (cert:List (List PairV)) (ht:TellOk st job lease c cert) (hd:job∈st.js.map (·.1))
  (A:Option Addr) (ca:Nat) (vs:List Value) (rest:List (List UInt8)) (hv:h.bxs.getD 0 []=.slice A (letterOf job lease c cert).length ca :: vs) (hl:lt.getD 0 []=letterOf job lease c cert :: rest) :
  Calls Tryz.prog 30 #[.pointer (some ⟨x,0,none⟩),.bool false,.slice none 0 0] w λe w'=>e=.returned (.int .i64 61)∧TookPost w ow x st h (lt.set 0 rest) jobs last w':=by
 have h0:0 < h.bs.length:=by have:=f.lens;omega
 have c11:w.cell? ⟨x,11,none⟩=some h.tp:=f.cell 11
 have c12:w.cell? ⟨x,12,none⟩=some h.bv:=f.cell 12
 obtain⟨Ab,cb,e1,e2,e3,e4⟩:=f.row
 rw[e1] at c12
 obtain⟨b,off,rfl,z0⟩:=e3 0 (by simpa using h0)
 simp only[List.getElem_map,Nat.add_zero] at z0
 have HTk:=Hm (Bx.take_some h.bs[0].1 h.bs[0].2 st.box (.slice A (letterOf job lease c cert).length ca) vs w (by have:=(f.boxes 0 h0).1;rw[hv] at this;exact this))
 obtain⟨pb0,pt0,hb0,ht0⟩:∃ pb0 pt0,h.bp=.pointer (some ⟨pb0,0,none⟩)∧h.tp=.pointer (some ⟨pt0,0,none⟩):=by
  obtain⟨pb,base,ok,kv,vv,pt,Bt,e1,e2,-⟩:=u.ex
  exact⟨pb,pt,e1,e2⟩
 rw[ht0] at c11
 have hp:=f.size
 have HJ:=Hm (λ(w1:World) (hs:Bx.Step w w1 h.bs[0].2 st.box vs)=>judge_in1 w ow x st h lt f jobs last u job lease c cert ht hd A ca vs rest hv hl h0 w1 hs)
 have hbl:h.bs.length≤4:=by have:=f.lens.1;omega
 have hml:=f.lens
 generalize h.bs[0]=b0 at *
 generalize h.bs.length=nb at *
 have hn0:¬nb=0:=by omega
 generalize (letterOf job lease c cert).length=n at *
 clear f u ht e1 e2 e3 e4 hw3 hv hl hd hml
 go_enter Tryz.func30,Tryz.ntmps30
 go_wp2_with fail
 refine HTk.o.mono ?_
 rintro e w1 ⟨rfl,hs1⟩
 have HJ1:=Hm (HJ.o w1 hs1)
 clear hs1
 go_wp2_with fail
 refine HJ1.o.mono ?_
 rintro e w2 ⟨rfl,hP⟩
 have HP:=Hm hP
 clear hP
 go_wp2_with fail
 go_ret
 exact⟨rfl,HP.o⟩
def roomFor (st:FSt) (job:Nat) (d:List UInt8):Nat:=(laid (recsOf st.js)).length+(layF 1 (recB job d)).length
theorem commit_in1 {w2:World} {ow:Nat→Nat} {x:Nat} {st:FSt} {h:Hds} {lt:List (List (List UInt8))} (f:Farm w2 ow x st h lt) {jobs:List Ls.Job} {last:Nat} (u:FarmUp w2 ow st h jobs last) (job:Nat) (hj:job < 16) (d:List UInt8) (hd:job∉st.js.map (·.1)) (hl:(recB job d).length≤65536) (hr:st.room < roomFor st job d) (Ad:Option Addr) (cd:Nat) (hB:Bytes w2 Ad d) (hc:d.length≤cd) (pb0:Nat) (hb0:h.bp=.pointer (some ⟨pb0,0,none⟩)) :
  Calls Tryz.prog 69 #[.pointer (some ⟨pb0,0,none⟩),.int .i64 job,.slice Ad d.length cd] w2 λe w'=>e=.returned (.int .i64 50)∧Bel w2 w':=by
 obtain⟨pb,base,ok,kv,vv,pt,Bt,e1,e2,hb,-⟩:=u.ex
 have hk:(job:Int)∉keysOf st.js:=by
  intro hm
  obtain⟨p,hp,e⟩:=List.mem_map.1 hm
  exact hd (List.mem_map.2 ⟨p,hp,by exact_mod_cast e⟩)
 rw[←hb0,e1]
 exact commit_full pb h.pf base st.room ok _ _ kv vv _ h.A h.c job hj hk d Ad cd w2 hb f.file hB hl hr
theorem commit_in2 {w2:World} {ow:Nat→Nat} {x:Nat} {st:FSt} {h:Hds} {lt:List (List (List UInt8))} (f:Farm w2 ow x st h lt) {jobs:List Ls.Job} {last:Nat} (u:FarmUp w2 ow st h jobs last) (job:Nat) (hj:job < 16) (d:List UInt8) (hd:∀ p∈st.js,p.1 < job) (hf:st.js.length < 1000) (hl:(recB job d).length≤65536) (hr:roomFor st job d≤st.room) (Ad:Option Addr) (cd:Nat) (hB:Bytes w2 Ad d) (hc:d.length≤cd) (hA:∀ a,Ad=some a→ow a.block=0) (pb0:Nat) (hb0:h.bp=.pointer (some ⟨pb0,0,none⟩)) :
  Calls Tryz.prog 69 #[.pointer (some ⟨pb0,0,none⟩),.int .i64 job,.slice Ad d.length cd] w2 λe w'=>e=.returned (.int .i64 0)∧∃ ow' h',Turn w2 w' ow ow' (λn=>n≠0)∧Farm w' ow' x { st with js:=st.js++[(job,d)] } h' lt∧UpEx w' ow' { st with js:=st.js++[(job,d)] } h' jobs last∧h'.tp=h.tp:=by
 obtain⟨pb,base,ok,kv,vv,pt,Bt,e1,e2,hb,ht,o1,o2,o3,o4,o5,o6⟩:=u.ex
 have hk:∀ k∈keysOf st.js,k < (job:Int):=by
  intro k hm
  obtain⟨p,hp,e⟩:=List.mem_map.1 hm
  have:=hd p hp
  omega
 rw[←hb0,e1]
 have HC:=commit_ok pb h.pf base st.room ok _ _ kv vv _ h.A h.c job hj hk d Ad cd w2 hb f.file hB hl hr
  (λe=>by have h1:=f.of_;rw[e,o1] at h1;omega) (λe=>by have h1:=f.of_;rw[o2 _ e] at h1;omega) (λe=>by have h1:=f.of_;rw[o3 _ e] at h1;omega) (λe=>by have h1:=f.of_;rw[o4 _ e] at h1;omega)
  (λa ha=>⟨λe=>by have h1:=f.of_;rw[←e,hA a ha] at h1;omega,λe=>by have h1:=o1;rw[←e,hA a ha] at h1;omega⟩) (by unfold keysOf;rw[List.length_map];exact hf)
 refine HC.mono ?_
 rintro e w' ⟨rfl,hc⟩
 obtain⟨ow',h',t,f',u',-,-,-,g4,-⟩:=committed f jobs last u job d pb pt Bt base ok kv vv e1 e2 hb ht o1 o2 o3 o4 o5 o6 hc
 exact⟨rfl,ow',h',t.coarse,f',u',g4⟩
theorem done_in2 {w0 w3:World} {ow0 ow:Nat→Nat} {x:Nat} {st0:FSt} {h0 h:Hds} {lt:List (List (List UInt8))} {jobs:List Ls.Job} {last:Nat} (u0:FarmUp w0 ow0 st0 h0 jobs last) (job:Nat) (d:List UInt8) (hd:job∉st0.js.map (·.1)) (hj:job < st0.fs.length)
  (f:Farm w3 ow x { st0 with js:=st0.js++[(job,d)] } h lt) (u:UpEx w3 ow { st0 with js:=st0.js++[(job,d)] } h jobs last) :
  Calls Tryz.prog 70 #[h.tp,.int .i64 job] w3 λe w'=>e=.returned (.int .i64 0)∧∃ jobs',Turn w3 w' ow ow (λn=>n≠0)∧Farm w' ow x { st0 with js:=st0.js++[(job,d)] } h lt∧FarmUp w' ow { st0 with js:=st0.js++[(job,d)] } h jobs' last:=by
 have hji:job < jobs.length:=by rw[u0.len];exact hj
 obtain⟨pb,base,ok,kv,vv,pt,Bt,e1,e2,hb,ht,o1,o2,o3,o4,o5,o6⟩:=id u
 rw[e2]
 refine(Ls.done_in pt Bt jobs st0.t last job w3 ht hji).mono ?_
 rintro e w' ⟨hk,hr⟩
 rw[if_neg (by rw[u0.done job hji];simp only[decide_eq_true_eq];exact hd)] at hr
 obtain⟨rfl,ht'⟩:=hr
 obtain⟨t,f',u'⟩:=marked f jobs last u pt Bt e2 o5 o6 _ last hk ht'
 exact⟨rfl,_,t.coarse,f',up_done u0 job d hji rfl u'⟩
theorem take_full (w:World) (ow:Nat→Nat) (x:Nat) (st:FSt) (h:Hds) (lt:List (List (List UInt8))) (f:Farm w ow x st h lt) (hw3:st.workers≤3) (jobs:List Ls.Job) (last:Nat) (u:FarmUp w ow st h jobs last) (job lease:Nat) (c:Code) (cert:List (List PairV)) (ht:TellOk st job lease c cert) (hd:job∉st.js.map (·.1))
  (A:Option Addr) (ca:Nat) (vs:List Value) (rest:List (List UInt8)) (hv:h.bxs.getD 0 []=.slice A (letterOf job lease c cert).length ca :: vs) (hl:lt.getD 0 []=letterOf job lease c cert :: rest) (hlr:(recB job (encCode c)).length≤65536) (hr:st.room < roomFor st job (encCode c)) :
  Calls Tryz.prog 30 #[.pointer (some ⟨x,0,none⟩),.bool false,.slice none 0 0] w λe w'=>e=.returned (.int .i64 50)∧TookPost w ow x st h (lt.set 0 rest) jobs last w':=by
 have h0:0 < h.bs.length:=by have:=f.lens;omega
 have c11:w.cell? ⟨x,11,none⟩=some h.tp:=f.cell 11
 have c12:w.cell? ⟨x,12,none⟩=some h.bv:=f.cell 12
 obtain⟨Ab,cb,e1,e2,e3,e4⟩:=f.row
 rw[e1] at c12
 obtain⟨b,off,rfl,z0⟩:=e3 0 (by simpa using h0)
 simp only[List.getElem_map,Nat.add_zero] at z0
 have HTk:=Hm (Bx.take_some h.bs[0].1 h.bs[0].2 st.box (.slice A (letterOf job lease c cert).length ca) vs w (by have:=(f.boxes 0 h0).1;rw[hv] at this;exact this))
 obtain⟨pb0,pt0,hb0,ht0⟩:∃ pb0 pt0,h.bp=.pointer (some ⟨pb0,0,none⟩)∧h.tp=.pointer (some ⟨pt0,0,none⟩):=by
  obtain⟨pb,base,ok,kv,vv,pt,Bt,e1,e2,-⟩:=u.ex
  exact⟨pb,pt,e1,e2⟩
 rw[ht0] at c11
 have hp:=f.size
 have HJ:=Hm (λ(w1:World) (hs:Bx.Step w w1 h.bs[0].2 st.box vs)=>judge_in2 w ow x st h lt f jobs last u job lease c cert ht hd A ca vs rest hv hl h0 w1 hs)
 have HCo:=Hm (λ(w2:World) (Ad:Option Addr) (cd:Nat) (f2:Farm w2 ow x st { h with bxs:=h.bxs.set 0 vs } (lt.set 0 rest)) (u2:FarmUp w2 ow st { h with bxs:=h.bxs.set 0 vs } jobs last) (hB:Bytes w2 Ad (encCode c)) (hc:(encCode c).length≤cd)=>commit_in1 f2 u2 job ht.j16 (encCode c) hd hlr hr Ad cd hB hc pb0 hb0)
 clear hlr hr
 have hbl:h.bs.length≤4:=by have:=f.lens.1;omega
 have hml:=f.lens
 generalize h.bs[0]=b0 at *
 generalize h.bs.length=nb at *
 have hn0:¬nb=0:=by omega
 generalize (letterOf job lease c cert).length=n at *
 clear f u ht e1 e2 e3 e4 hw3 hv hl hd hml
 go_enter Tryz.func30,Tryz.ntmps30
 go_wp2_with fail
 refine HTk.o.mono ?_
 rintro e w1 ⟨rfl,hs1⟩
 have HJ1:=Hm (HJ.o w1 hs1)
 clear hs1
 go_wp2_with fail
 refine HJ1.o.mono ?_
 rintro e w2 ⟨V,rfl,hV,ht2,hf2,hu2⟩
 obtain⟨A2,c2,rfl,hB2,hc2,hA2⟩:=hV
 have HC2:=Hm (HCo.o w2 A2 c2 hf2 hu2 hB2 hc2)
 have d10:w2.cell? ⟨x,10,none⟩=some h.bp:=hf2.cell 10
 rw[hb0] at d10
 have hp2:=hf2.size
 have HF2:=Hm (And.intro ht2 (And.intro hf2 hu2))
 clear hB2 hc2 hA2 hf2 hu2 ht2
 generalize (encCode c).length=m at *
 go_wp2_with fail
 refine HC2.o.mono ?_
 rintro e w3 ⟨rfl,hb3⟩
 have HB3:=Hm hb3
 clear hb3
 go_wp2_with fail
 go_ret
 exact⟨rfl,ow,_,(HF2.o.1.trans (Turn.bel HB3.o ow)).coarse,HF2.o.2.1.bel HB3.o,HF2.o.2.2.bel HB3.o⟩
theorem take_ok (w:World) (ow:Nat→Nat) (x:Nat) (st:FSt) (h:Hds) (lt:List (List (List UInt8))) (f:Farm w ow x st h lt) (hw3:st.workers≤3) (jobs:List Ls.Job) (last:Nat) (u:FarmUp w ow st h jobs last) (job lease:Nat) (c:Code) (cert:List (List PairV)) (ht:TellOk st job lease c cert) (hd:job∉st.js.map (·.1))
  (A:Option Addr) (ca:Nat) (vs:List Value) (rest:List (List UInt8)) (hv:h.bxs.getD 0 []=.slice A (letterOf job lease c cert).length ca :: vs) (hl:lt.getD 0 []=letterOf job lease c cert :: rest) (hlr:(recB job (encCode c)).length≤65536) (hr:roomFor st job (encCode c)≤st.room) (hup:∀ p∈st.js,p.1 < job) (hfew:st.js.length < 1000) :
  Calls Tryz.prog 30 #[.pointer (some ⟨x,0,none⟩),.bool false,.slice none 0 0] w λe w'=>e=.returned (.int .i64 0)∧∃ jobs',TookPost w ow x { st with js:=st.js++[(job,encCode c)] } h (lt.set 0 rest) jobs' last w':=by
 have h0:0 < h.bs.length:=by have:=f.lens;omega
 have c11:w.cell? ⟨x,11,none⟩=some h.tp:=f.cell 11
 have c12:w.cell? ⟨x,12,none⟩=some h.bv:=f.cell 12
 obtain⟨Ab,cb,e1,e2,e3,e4⟩:=f.row
 rw[e1] at c12
 obtain⟨b,off,rfl,z0⟩:=e3 0 (by simpa using h0)
 simp only[List.getElem_map,Nat.add_zero] at z0
 have HTk:=Hm (Bx.take_some h.bs[0].1 h.bs[0].2 st.box (.slice A (letterOf job lease c cert).length ca) vs w (by have:=(f.boxes 0 h0).1;rw[hv] at this;exact this))
 obtain⟨pb0,pt0,hb0,ht0⟩:∃ pb0 pt0,h.bp=.pointer (some ⟨pb0,0,none⟩)∧h.tp=.pointer (some ⟨pt0,0,none⟩):=by
  obtain⟨pb,base,ok,kv,vv,pt,Bt,e1,e2,-⟩:=u.ex
  exact⟨pb,pt,e1,e2⟩
 rw[ht0] at c11
 have hp:=f.size
 have HJ:=Hm (λ(w1:World) (hs:Bx.Step w w1 h.bs[0].2 st.box vs)=>judge_in2 w ow x st h lt f jobs last u job lease c cert ht hd A ca vs rest hv hl h0 w1 hs)
 have HCo:=Hm (λ(w2:World) (Ad:Option Addr) (cd:Nat) (f2:Farm w2 ow x st { h with bxs:=h.bxs.set 0 vs } (lt.set 0 rest)) (u2:FarmUp w2 ow st { h with bxs:=h.bxs.set 0 vs } jobs last) (hB:Bytes w2 Ad (encCode c)) (hc:(encCode c).length≤cd) (hA:∀ a,Ad=some a→w.heap.size≤a.block)=>commit_in2 f2 u2 job ht.j16 (encCode c) hup hfew hlr hr Ad cd hB hc (λa ha=>f.new _ (hA a ha)) pb0 hb0)
 have HDo:=Hm (λ(w3:World) (ow3:Nat→Nat) (h3:Hds) (f3:Farm w3 ow3 x { st with js:=st.js++[(job,encCode c)] } h3 (lt.set 0 rest)) (u3:UpEx w3 ow3 { st with js:=st.js++[(job,encCode c)] } h3 jobs last)=>done_in2 u job (encCode c) hd ht.jl f3 u3)
 clear hlr hr
 have hbl:h.bs.length≤4:=by have:=f.lens.1;omega
 have hml:=f.lens
 generalize h.bs[0]=b0 at *
 generalize h.bs.length=nb at *
 have hn0:¬nb=0:=by omega
 generalize (letterOf job lease c cert).length=n at *
 clear f u ht e1 e2 e3 e4 hw3 hv hl hd hml
 go_enter Tryz.func30,Tryz.ntmps30
 go_wp2_with fail
 refine HTk.o.mono ?_
 rintro e w1 ⟨rfl,hs1⟩
 have HJ1:=Hm (HJ.o w1 hs1)
 clear hs1
 go_wp2_with fail
 refine HJ1.o.mono ?_
 rintro e w2 ⟨V,rfl,hV,ht2,hf2,hu2⟩
 obtain⟨A2,c2,rfl,hB2,hc2,hA2⟩:=hV
 have HC2:=Hm (HCo.o w2 A2 c2 hf2 hu2 hB2 hc2 hA2)
 have d10:w2.cell? ⟨x,10,none⟩=some h.bp:=hf2.cell 10
 rw[hb0] at d10
 have hp2:=hf2.size
 have HF2:=Hm ht2
 clear hB2 hc2 hA2 hf2 hu2 ht2
 generalize (encCode c).length=m at *
 go_wp2_with fail
 refine HC2.o.mono ?_
 rintro e w3 ⟨rfl,ow3,h3,ht3,hf3,hu3,htp⟩
 have HD3:=Hm (HDo.o w3 ow3 h3 hf3 hu3)
 have d11:w3.cell? ⟨x,11,none⟩=some h3.tp:=hf3.cell 11
 have htp3:h3.tp=.pointer (some ⟨pt0,0,none⟩):=by rw[htp];exact ht0
 rw[htp3] at d11 HD3
 have hp3:=hf3.size
 have HT3:=Hm ht3
 clear hf3 hu3 ht3 htp htp3
 go_wp2_with fail
 refine HD3.o.mono ?_
 rintro e w4 ⟨rfl,jobs',ht4,hf4,hu4⟩
 have HP:=Hm (And.intro ht4 (And.intro hf4 hu4))
 clear ht4 hf4 hu4
 go_wp2_with fail
 go_ret
 exact⟨rfl,jobs',ow3,h3,(HF2.o.any HT3.o).any HP.o.1,HP.o.2.1,HP.o.2.2⟩
def st0:FSt:=⟨3,1,⟨5,1,1⟩,1000,3,[fun0],0,[]⟩
def st1:FSt:={ st0 with now:=1 }
def job1:Ls.Job:={ Ls.Job.zero with lease:=1,deadline:=6,tries:=1 }
def ask0:List UInt8:=layF 2 (askBody 0 1 3 fun0)
theorem tick_one (w:World) (ow:Nat→Nat) (x:Nat) (h:Hds) (f:Farm w ow x st0 h [[],[]]) (u:FarmUp w ow st0 h [Ls.Job.zero] 0) :
  Calls Tryz.prog 28 #[.pointer (some ⟨x,0,none⟩)] w λe w'=>e=.returned (.int .i64 0)∧∃ h',Turn w w' ow ow (λn=>n=4∨n=5∨n=11)∧Farm w' ow x st1 h' [[],[ask0]]∧FarmUp w' ow st1 h' [job1] 1:=by
 have HF:=Hm f
 obtain⟨t1,f1⟩:=f.now 1
 have u1:=u.turn t1 (by omega)
 have HF1:=Hm (And.intro t1 (And.intro f1 u1))
 have c8:w.cell? ⟨x,8,none⟩=some (.int .u64 0):=f.cell 8
 have f8:=hfree f.head 8
 have c11:w.cell? ⟨x,11,none⟩=some h.tp:=f.cell 11
 have c1:w.cell? ⟨x,1,none⟩=some (.int .i64 1):=f.cell 1
 obtain⟨pt,Bt,htp,-,-⟩:=up_open u
 rw[htp] at c11
 have hp:=f.size
 clear f u t1 f1 u1
 go_enter Tryz.func28,Tryz.ntmps28
 go_wp2_with fail
 obtain⟨W,hW⟩:∃ W,W=w.setCell ⟨x,8,none⟩ (.int .u64 1):=⟨_,rfl⟩
 have hz:W.heap.size=w.heap.size:=by rw[hW];simp
 rw[←hW]
 rw[show ((1:Nat):Int)=1 from rfl,←hW] at HF1
 clear hW c8 f8 c11 c1
 have d8:W.cell? ⟨x,8,none⟩=some (.int .u64 1):=HF1.o.2.1.cell 8
 have d11:W.cell? ⟨x,11,none⟩=some (.pointer (some ⟨pt,0,none⟩)):=by rw[←htp];exact HF1.o.2.1.cell 11
 have hpW:x < W.heap.size:=by omega
 refine wp_region_line [.rd 0,.rd 1,.rd 2,.rd 3,.rd 4,.rd 5,.rd 6,.rd 7,.hv 8 []] (n:=90) (by kernel_rfl) (by kernel_rfl) (by kernel_rfl) (by kernel_rfl) rfl ?_
 iterate 8 (refine line_rd rfl (λK hK=>?_);go_simp;refine hK _ ?_;clear hK K)
 refine line_hv rfl ?_
 go_wp2_with fail
 have hbd:Bel W W.drew:=bD (bR W)
 generalize W.drew=V at hbd⊢
 have fV:=HF1.o.2.1.bel hbd
 have hsV:=hbd.size
 obtain⟨pt',Bt,htp',ht1,hcl1⟩:=up_open (HF1.o.2.2.bel hbd)
 rw[htp] at htp'
 cases htp'
 refine(Ls.expire_in pt Bt _ _ _ 1 V ht1 (by omega)).mono ?_
 rintro e w2 ⟨hk2,ht2,v2,rfl,-⟩
 have e2:Ls.agedTo [Ls.Job.zero] st0.t 1 1=[Ls.Job.zero]:=rfl
 have hU2:=hcl1 w2 [Ls.Job.zero] 0 hk2 ht2 rfl (λi h1 h2=>rfl)
 have HU2:=Hm hU2.1
 have HT2:=Hm (Only.belLeft hbd hU2.2.only)
 have hk2s:=hk2.size
 have HF2:=Hm (fV.turn hU2.2 (by omega) (λb hb=>HF1.o.2.1.new b (by omega)))
 have hs2:W.heap.size≤w2.heap.size:=by omega
 clear ht1 hcl1 hk2 ht2 hU2 d8 d11 e2 fV hbd hk2s hsV
 go_wp2_with fail
 refine⟨?_,?_⟩
 ·exact trivial
 unfold Line
 have d1:w2.cell? ⟨x,1,none⟩=some (.int .i64 1):=HF2.o.cell 1
 have hp2:x < w2.heap.size:=by omega
 go_wp2_with fail
 refine wp_loop_rounds 2 ?_
 rw[rounds_succ]
 clear d1
 go_wp2_with fail
 have d8:w2.cell? ⟨x,8,none⟩=some (.int .u64 1):=HF2.o.cell 8
 have d11:w2.cell? ⟨x,11,none⟩=some (.pointer (some ⟨pt,0,none⟩)):=by rw[←htp];exact HF2.o.cell 11
 refine wp_region_line [.rd 0,.rd 1,.rd 2,.rd 3,.rd 4,.rd 5,.rd 6,.rd 7,.hv 8 [],.rd 9,.rd 10,.rd 11,.rd 12,.rd 13,.rd 14,.rd 15] (n:=90) (by kernel_rfl) (by kernel_rfl) (by kernel_rfl) (by kernel_rfl) rfl ?_
 iterate 8 (refine line_rd rfl (λK hK=>?_);go_simp;refine hK _ ?_;clear hK K)
 refine line_hv rfl ?_
 go_wp2_with fail
 have hbd:Bel w2 w2.drew:=bD (bR w2)
 generalize w2.drew=V at hbd⊢
 have fV:=HF2.o.bel hbd
 have hsV:=hbd.size
 obtain⟨pt',Bt,htp',ht1,hcl1⟩:=up_open (HU2.o.bel hbd)
 rw[htp] at htp'
 cases htp'
 refine(Ls.next_some pt Bt _ _ _ 1 0 V ht1 (by omega) (by omega) rfl (by simp)).mono ?_
 rintro e w3 ⟨rfl,hk3,ht3⟩
 have hU3:=hcl1 w3 [job1] 1 hk3 ht3 rfl (λi h1 h2=>by
  obtain rfl:i=0:=by simpa using h1
  rfl)
 have HU3:=Hm hU3.1
 have HT3:=Hm (Only.belLeft hbd hU3.2.only)
 have hk3s:=hk3.size
 have HF3:=Hm (fV.turn hU3.2 (by omega) (λb hb=>fV.new b (by omega)))
 have hs3:w2.heap.size≤w3.heap.size:=by omega
 clear ht1 hcl1 hk3 ht3 hU3 d8 d11 fV hbd hk3s hsV
 go_wp2_with fail
 refine⟨?_,?_⟩
 ·exact trivial
 iterate 7 (refine line_rd rfl (λK hK=>?_);go_simp;refine hK _ ?_;clear hK K)
 unfold Line
 go_wp2_with fail
 have d0:w3.cell? ⟨x,0,none⟩=some (.int .i64 3):=HF3.o.cell 0
 obtain⟨bf,off,cf,v1,elv,-,hsk,-,-,z0,z1,z2⟩:=sk_func HF3.o.funcs 0 (by simp[st1,st0])
 have d7:w3.cell? ⟨x,7,none⟩=some (.slice (some ⟨bf,off,none⟩) 1 cf):=by rw[show (.slice (some ⟨bf,off,none⟩) 1 cf:Value)=h.lv from elv.symm];exact HF3.o.cell 7
 rw[Nat.zero_mul,Nat.add_zero] at z0 z1 z2
 replace z0:w3.cell? ⟨bf,off,none⟩=some (.int .i64 1):=z0
 replace z1:w3.cell? ⟨bf,off+1,none⟩=some (.int .i64 2):=z1
 have hsk0:Kd.SK kBlock w3 _ fun0.blocks v1:=hsk
 obtain⟨Av,cv,rfl,-⟩:=sk_form hsk0
 have HSk:=Hm hsk0
 have hp3:x < w3.heap.size:=by omega
 clear hsk hsk0
 refine wp_region_line [.rd 0,.rd 1,.rd 2,.rd 3,.rd 4,.rd 5,.rd 6,.rd 7,.rd 8,.rd 9,.rd 10,.rd 11,.rd 12,.rd 13,.rd 14,.hv 15 [],.rd 16,.rd 17,.rd 18,.rd 19,.rd 20] (n:=90) (by kernel_rfl) (by kernel_rfl) (by kernel_rfl) (by kernel_rfl) rfl ?_
 iterate 15 (refine line_rd rfl (λK hK=>?_);go_simp;refine hK _ ?_;clear hK K)
 refine line_hv rfl ?_
 go_wp2_with fail
 have hbd:Bel w3 w3.drew:=bD (bR w3)
 generalize w3.drew=V at hbd⊢
 have hl:=ask0_len 0 1 3 (by omega) (by omega) (by omega)
 refine(putAsk_any 0 1 3 (by omega) (by omega) (by omega) fun0 fun0_ok fun0_fine (by omega) _ _ V (sk_bel HSk.o hbd)).mono ?_
 rintro e w4 ⟨hb4,v4,rfl,hn4⟩
 have HB4:=Hm (bT hbd hb4)
 have HN4:=Hm (hn4.base hbd)
 obtain⟨A4,c4,rfl⟩:∃ A c,v4=.slice A (layF 2 (askBody 0 1 3 fun0)).length c:=by
  obtain⟨A4,c4,e,-⟩:=hn4
  exact⟨A4,c4,e⟩
 have hs4:w3.heap.size≤w4.heap.size:=HB4.o.size
 clear hb4 hn4 hbd HSk z0 z1 z2 d0 d7 elv hl
 go_wp2_with fail
 refine⟨?_,?_⟩
 ·exact trivial
 iterate 5 (refine line_rd rfl (λK hK=>?_);go_simp;refine hK _ ?_;clear hK K)
 unfold Line
 have hlen:h.bs.length=2:=HF3.o.lens.1
 obtain⟨Ab,cb,ebv,-,hrow,-⟩:=(HF3.o.bel HB4.o).row
 rw[hlen] at ebv
 obtain⟨bb,ob,rfl,y1⟩:=hrow 1 (by simp;omega)
 simp only[List.getElem_map] at y1
 have d12:w4.cell? ⟨x,12,none⟩=some (.slice (some ⟨bb,ob,none⟩) 2 cb):=by rw[←ebv];exact(HF3.o.bel HB4.o).cell 12
 have h1:1 < h.bs.length:=by omega
 have hp4:x < w4.heap.size:=by omega
 have HPut:=Hm (λ(v:Value)=>Bx.put_room h.bs[1].1 h.bs[1].2 st0.box (h.bxs.getD 1 []) v w4 ((HF3.o.bel HB4.o).boxes 1 h1).1 (by rw[(HF3.o.letters 1 h1).1];simp[st0]))
 obtain⟨bp1,hbp1⟩:∃ bp1,h.bs[1].1=bp1:=⟨_,rfl⟩
 rw[hbp1] at y1 HPut
 clear hrow
 go_wp2_with fail
 refine(HPut.o _).mono ?_
 rintro e w5 ⟨rfl,hs5⟩
 obtain⟨t5,f5⟩:=sent_at HF3.o 1 h1 HB4.o HN4.o hs5 (by simp[st0])
 have u5:=(HU3.o.turn t5 (by omega)).boxes (h.bxs.set 1 (h.bxs.getD 1 []++[.slice A4 (layF 2 (askBody 0 1 3 fun0)).length c4]))
 have hfin:∃ h',Turn w w5 ow ow (λn=>n=4∨n=5∨n=11)∧Farm w5 ow x st1 h' [[],[ask0]]∧FarmUp w5 ow st1 h' [job1] 1 :=
  ⟨_,⟨(((HF1.o.1.only.weaken (G:=λb=>ow b=4∨ow b=5∨ow b=11) (λb _ e=>.inr (.inl e))).trans HT2.o (λb _ e=>.inl e)).trans HT3.o (λb _ e=>.inl e)).trans t5.only (λb _ e=>.inr (.inr e)),λ_ _=>rfl,by omega⟩,f5,⟨u5.ex,u5.len,u5.done⟩⟩
 have HFin:=Hm hfin
 clear hfin t5 f5 u5 hs5 HPut HB4 HN4 HF3 HU3 HT3 HF2 HU2 HT2 HF1 HF y1 d12 hlen hbp1 ebv
 go_wp2_with fail
 rw[rounds_succ]
 go_wp2_with fail
 exact bodyPost_ret (v:=.int .i64 0) (by simp[results,Tryz.results28,go_sem]) rfl ⟨rfl,HFin.o⟩
theorem TabOk.turn {w w':World} {ow ow':Nat→Nat} {I:Nat→Prop} (h:TabOk w) (t:Turn w w' ow ow' I) (hI:¬I (ow 0)):TabOk w':=by
 have hz:=World.block_lt_of_cell? w _ h.1
 exact⟨(cell_of_heap (a:=⟨0,0,none⟩) (t.only.block 0 hz hI)).trans h.1,(cell_of_heap (a:=⟨0,1,none⟩) (t.only.block 0 hz hI)).trans h.2⟩
theorem work_one (w:World) (ow:Nat→Nat) (x:Nat) (h:Hds) (f:Farm w ow x st1 h [[],[ask0]]) (u:FarmUp w ow st1 h [job1] 1) (ht:TabOk w) (ho:ow 0=0) :
  Calls Tryz.prog 29 #[.pointer (some ⟨x,0,none⟩),.int .i64 0,.bool false] w λe w'=>e=.returned (.int .i64 0)∧∃ h',Turn w w' ow ow (λn=>n=10∨n=11)∧Farm w' ow x st1 h' [[letterOf 0 1 code0 cert0],[]]∧FarmUp w' ow st1 h' [job1] 1:=by
 have hlen:h.bs.length=2:=f.lens.1
 obtain⟨v0,hv0⟩:∃ v0,h.bxs.getD 1 []=[v0]:=by
  have:=(f.letters 1 (by omega)).1
  exact List.length_eq_one_iff.1 this
 have hx0:h.bxs.getD 0 []=[]:=by
  have:=(f.letters 0 (by omega)).1
  exact List.length_eq_zero_iff.1 this
 obtain⟨Ab,cb,ebv,-,hrow,-⟩:=f.row
 rw[hlen] at ebv
 obtain⟨bb,ob,rfl,y1⟩:=hrow 1 (by simp;omega)
 obtain⟨bb',ob',e,y0⟩:=hrow 0 (by simp;omega)
 cases e
 simp only[List.getElem_map] at y0 y1
 have d12:w.cell? ⟨x,12,none⟩=some (.slice (some ⟨bb,ob,none⟩) 2 cb):=by rw[←ebv];exact f.cell 12
 have d1:w.cell? ⟨x,1,none⟩=some (.int .i64 1):=f.cell 1
 have h1:1 < h.bs.length:=by omega
 have hp:=f.size
 have HF:=Hm (And.intro f (And.intro u (And.intro ht ho)))
 clear f u ht hrow
 have hw0:IntKind.u64.wrap 0=0:=rfl
 have hw1:IntKind.u64.wrap 1=1:=rfl
 have hi0:IntKind.i64.wrap 0=0:=rfl
 have hi1:IntKind.i64.wrap 1=1:=rfl
 have hm0:(0:Int).tmod 1=0:=rfl
 go_enter Tryz.func29,Tryz.ntmps29
 go_wp2_with fail
 refine wp_region_line [.rd 0,.rd 1,.rd 2,.rd 3,.rd 4,.rd 5,.rd 6,.rd 7,.rd 8,.rd 9,.rd 10,.rd 11,.rd 12,.rd 13,.rd 14,.rd 15,.rd 16,.hv 17 [],.rd 18,.rd 19,.rd 20,.rd 21,.rd 22] (n:=50) (by kernel_rfl) (by kernel_rfl) (by kernel_rfl) (by kernel_rfl) rfl ?_
 iterate 12 (refine line_rd rfl (λK hK=>?_);go_simp;refine hK _ ?_;clear hK K)
 refine line_rd rfl (λK hK=>?_)
 go_simp
 try simp only[hw0,hw1,hm0]
 try go_simp
 refine hK _ ?_
 clear hK K
 iterate 2 (refine line_rd rfl (λK hK=>?_);go_simp;(try simp only[hw0,hw1,hm0,hi0]);refine hK _ ?_;clear hK K)
 refine line_rd rfl (λK hK=>?_)
 go_simp
 (try simp only[hi1])
 (try go_simp)
 refine hK _ ?_
 clear hK K
 refine line_rd rfl (λK hK=>?_)
 go_simp
 refine hK _ ?_
 clear hK K
 refine line_hv rfl ?_
 go_wp2_with fail
 have hbd:Bel w w.drew:=bD (bR w)
 generalize w.drew=V at hbd⊢
 have fV:=HF.o.1.bel hbd
 have uV:=HF.o.2.1.bel hbd
 have tV:=HF.o.2.2.1.bel hbd
 have bx:=(fV.boxes 1 h1).1
 rw[hv0] at bx
 refine(Bx.take_some h.bs[1].1 h.bs[1].2 st1.box v0 [] V bx).mono ?_
 rintro e w2 ⟨rfl,hs2⟩
 obtain⟨t2,f2,l2⟩:=took_at fV 1 h1 v0 [] ask0 [] hv0 rfl hs2
 obtain⟨Aa,ca,rfl,hBa,hca,-⟩:=l2
 have u2:=(uV.turn t2 (by omega)).boxes (h.bxs.set 1 [])
 have tab2:=tV.turn t2 (by rw[HF.o.2.2.2];omega)
 have HT2:=Hm (Only.belLeft hbd t2.only)
 have HF2:=Hm (And.intro f2 (And.intro u2 tab2))
 have HS2:=Hm (serve_one 0 1 (by omega) (by omega) Aa ca w2 tab2 hBa hca)
 have hs2':w.heap.size≤w2.heap.size:=HT2.o.size
 rw[show (layF 2 (askBody 0 1 3 fun0)).length=ask0.length from rfl] at HS2
 have d12':w2.cell? ⟨x,12,none⟩=some (.slice (some ⟨bb,ob,none⟩) 2 cb):=by rw[←ebv];exact f2.cell 12
 clear t2 f2 u2 tab2 hbd fV uV tV bx hs2 hBa hca
 go_wp2_with fail
 refine⟨?_,?_⟩
 ·exact trivial
 iterate 5 (refine line_rd rfl (λK hK=>?_);go_simp;refine hK _ ?_;clear hK K)
 unfold Line
 go_wp2_with fail
 refine HS2.o.mono ?_
 rintro e w3 ⟨hb3,v3,rfl,hn3⟩
 obtain⟨A3,c3,rfl⟩:∃ A c,v3=.slice A (letterOf 0 1 code0 cert0).length c:=by
  obtain⟨A3,c3,e,-⟩:=hn3
  exact⟨A3,c3,e⟩
 have d12:=bCell hb3 d12'
 have HB3:=Hm hb3
 have HN3:=Hm hn3
 have hs3:=hb3.size
 have hp3:x < w3.heap.size:=by omega
 have h0:0 < h.bs.length:=by omega
 have eb0:(h.bxs.set 1 []).getD 0 []=[]:=by
  simp only[List.getD_eq_getElem?_getD] at hx0⊢
  rw[List.getElem?_set_ne (by omega)]
  exact hx0
 have bx0:=((HF2.o.1.bel hb3).boxes 0 h0).1
 simp only[eb0] at bx0
 have HPut:=Hm (λ(v:Value)=>Bx.put_room h.bs[0].1 h.bs[0].2 st1.box [] v w3 bx0 (by simp[st1,st0]))
 obtain⟨Ab2,cb2,ebv2,-,hrow2,-⟩:=(HF2.o.1.bel hb3).row
 simp only at ebv2
 rw[ebv,hlen] at ebv2
 cases ebv2
 obtain⟨bb2,ob2,e,z0⟩:=hrow2 0 (by simp;omega)
 cases e
 simp only[List.getElem_map,Nat.add_zero] at z0
 have u3:=HF2.o.2.1
 have f3:=HF2.o.1
 have hlet:(([[],[ask0]]:List (List (List UInt8))).set 1 []).getD 0 []=[]:=rfl
 obtain⟨bp0,hbp0⟩:∃ bp0,h.bs[0].1=bp0:=⟨_,rfl⟩
 rw[hbp0] at z0 HPut
 clear hrow2 bx0 hb3 hn3 d12' HS2
 go_wp2_with fail
 refine(HPut.o _).mono ?_
 rintro e w5 ⟨rfl,hs5⟩
 obtain⟨t5,f5⟩:=sent_at f3 0 h0 HB3.o HN3.o (by simp only[eb0];exact hs5) (by simp[hlet,st1,st0])
 simp only[eb0,List.nil_append] at f5
 have u5:=(u3.turn t5 (by omega)).boxes ((h.bxs.set 1 []).set 0 [.slice A3 (letterOf 0 1 code0 cert0).length c3])
 have hfin:∃ h',Turn w w5 ow ow (λn=>n=10∨n=11)∧Farm w5 ow x st1 h' [[letterOf 0 1 code0 cert0],[]]∧FarmUp w5 ow st1 h' [job1] 1 :=
  ⟨_,⟨(HT2.o.weaken (G:=λb=>ow b=10∨ow b=11) (λb _ e=>.inr e)).trans t5.only (λb _ e=>.inl e),λ_ _=>rfl,by omega⟩,f5,⟨u5.ex,u5.len,u5.done⟩⟩
 have HFin:=Hm hfin
 clear hfin t5 f5 u5 hs5 HPut HN3 HB3 HF2 HT2 HF f3 u3 z0 d12 y0 y1 eb0 hx0 hv0
 go_wp2_with fail
 exact bodyPost_ret (v:=.int .i64 0) (by simp[results,Tryz.results29,go_sem]) rfl ⟨rfl,HFin.o⟩
theorem do_take (x:Nat) (w:World) (r:Int) (P:World→Prop) (who:Int) (best:Bool) (keep body:Value) (hk:keep.oneCell'=true) (hb:body.oneCell'=true)
  (H:∀ w1,Bel w w1→Calls Tryz.prog 30 #[.pointer (some ⟨x,0,none⟩),.bool false,.slice none 0 0] w1 λe w'=>e=.returned (.int .i64 r)∧P w') :
  Calls Tryz.prog 11 #[.pointer (some ⟨x,0,none⟩),actV 3 who best keep body] w λe w'=>e=.returned (.int .i64 r)∧P w':=by
 have HH:=Hm H
 clear H
 unfold actV
 go_enter Tryz.func11,Tryz.ntmps11
 go_wp2_with fail
 refine(HH.o _ (bA (bR w) _)).mono ?_
 rintro e w1 ⟨rfl,hP⟩
 have HP:=Hm hP
 clear hP
 go_wp2_with fail
 go_ret
 exact⟨rfl,HP.o⟩
def CrashPost (w:World) (ow:Nat→Nat) (x:Nat) (st:FSt) (h:Hds) (lt:List (List (List UInt8))) (w':World):Prop :=
 ∃ h',Turn w w' ow ow (λn=>n≠0)∧Farm w' ow x st h' lt∧h'.bp=.pointer none∧h'.tp=.pointer none
theorem crash_ok (w:World) (ow:Nat→Nat) (x:Nat) (st:FSt) (h:Hds) (lt:List (List (List UInt8))) (f:Farm w ow x st h lt) (jobs:List Ls.Job) (last:Nat) (u:FarmUp w ow st h jobs last) (K:Option Addr) (kn kc:Nat) :
  Calls Tryz.prog 36 #[.pointer (some ⟨x,0,none⟩),.slice K kn kc] w λe w'=>e=.returned (.int .i64 0)∧CrashPost w ow x st h lt w':=by
 obtain⟨pb,pt,hb0,ht0⟩:∃ pb0 pt0,h.bp=.pointer (some ⟨pb0,0,none⟩)∧h.tp=.pointer (some ⟨pt0,0,none⟩):=by
  obtain⟨pb,base,ok,kv,vv,pt,Bt,e1,e2,-⟩:=u.ex
  exact⟨pb,pt,e1,e2⟩
 have c11:w.cell? ⟨x,11,none⟩=some h.tp:=f.cell 11
 have c10:w.cell? ⟨x,10,none⟩=some h.bp:=f.cell 10
 have c9:w.cell? ⟨x,9,none⟩=some (.pointer (some ⟨h.pf,0,none⟩)):=f.cell 9
 obtain⟨-,-,-,-,-,-,-,-,-,-,f10,f11⟩:=fF12 f.head
 rw[ht0] at c11
 rw[hb0] at c10
 have hp:=f.size
 have HF:=Hm f
 clear f u
 go_enter Tryz.func36,Tryz.ntmps36
 go_wp2_with fail
 obtain⟨w2,hw2⟩:∃ w2,w2=(w.setCell ⟨x,11,none⟩ (.pointer none)).setCell ⟨x,10,none⟩ (.pointer none):=⟨_,rfl⟩
 rw[←hw2]
 have hg1:w.grownBy (w.setCell ⟨x,11,none⟩ (.pointer none)) (some x):=grownBy_cell _ _ _ _
 have hh1:(w.setCell ⟨x,11,none⟩ (.pointer none)).heap[x]?=some (.cells (farmCells st { h with tp:=.pointer none }) 114 (0,0)):=by
  rw[Go.Joins.block_setCell HF.o.head _]
  rfl
 have hg2:(w.setCell ⟨x,11,none⟩ (.pointer none)).grownBy w2 (some x):=by rw[hw2];exact grownBy_cell _ _ _ _
 have hh2:w2.heap[x]?=some (.cells (farmCells st { h with tp:=.pointer none,bp:=.pointer none }) 114 (0,0)):=by
  rw[hw2,Go.Joins.block_setCell hh1 _]
  rfl
 have ho2:Only w w2 (λb=>b=x):=(Only.grown (F:=λb=>b=x) hg1 (λg e=>by cases e;rfl)).trans (Only.grown (F:=λb=>b=x) hg2 (λg e=>by cases e;rfl)) (λ_ _ h=>h)
 have hx5:=HF.o.ox
 have hp2:=HF.o.of_
 have hxp:h.pf≠x:=λe=>by rw[e,hx5] at hp2;omega
 have hf2:=HF.o.file.only' ho2 hxp (λh0 a ha e=>by have:=HF.o.oA h0 a ha;rw[e,hx5] at this;omega)
 refine(crash_none h.pf st.room _ h.A h.c K kn kc w2 hf2).mono ?_
 rintro e w3 ⟨rfl,hg3,hf3⟩
 have t:Turn w w3 ow ow (λn=>n=2∨n=5):=⟨(ho2.weaken (G:=λb=>b=x∨b=h.pf) (λ_ _ h=>.inl h)).trans (Only.grown (F:=λb=>b=h.pf) hg3 (λg e=>by cases e;rfl)) (λ_ _ h=>.inr h) |>.weaken (λb _ e=>by
  rcases e with e|e
  ·exact .inr (by rw[e];exact hx5)
  ·exact .inl (by rw[e];exact hp2)),λ_ _=>rfl,by omega⟩
 have hh3:w3.heap[x]?=some (.cells (farmCells st { h with tp:=.pointer none,bp:=.pointer none }) 114 (0,0)):=by
  rw[hg3.block x (hlt hh2) (by simp;exact λe=>hxp e.symm)]
  exact hh2
 have HP:Hd (CrashPost w ow x st h lt w3):=⟨{ h with tp:=.pointer none,bp:=.pointer none },t.coarse,HF.o.turn2 t (λn e=>by omega) hh3 ⟨rfl,rfl,rfl⟩ ⟨rfl,rfl,rfl,rfl⟩ hf3 hp2 HF.o.oA (λb hb=>HF.o.new b (Nat.le_trans t.only.size hb)),rfl,rfl⟩
 clear hg1 hh1 hg2 hh2 ho2 hf2 hg3 hf3 t hh3
 go_wp2_with fail
 go_ret
 exact⟨rfl,HP.o⟩
theorem do_crash (x:Nat) (w:World) (r:Int) (P:World→Prop) (who:Int) (best:Bool) (K:Option Addr) (kn kc:Nat) (body:Value) (hb:body.oneCell'=true)
  (H:∀ w1,Bel w w1→Calls Tryz.prog 36 #[.pointer (some ⟨x,0,none⟩),.slice K kn kc] w1 λe w'=>e=.returned (.int .i64 r)∧P w') :
  Calls Tryz.prog 11 #[.pointer (some ⟨x,0,none⟩),actV 8 who best (.slice K kn kc) body] w λe w'=>e=.returned (.int .i64 r)∧P w':=by
 have HH:=Hm H
 clear H
 unfold actV
 go_enter Tryz.func11,Tryz.ntmps11
 go_wp2_with fail
 refine(HH.o _ (bA (bR w) _)).mono ?_
 rintro e w1 ⟨rfl,hP⟩
 have HP:=Hm hP
 clear hP
 go_wp2_with fail
 go_ret
 exact⟨rfl,HP.o⟩
theorem do_start (x:Nat) (w:World) (P:World→Prop) (who:Int) (best:Bool) (keep body:Value) (hk:keep.oneCell'=true) (hb:body.oneCell'=true)
  (hx:w.cell? ⟨x,11,none⟩=some (.pointer none))
  (H:∀ w1,Bel w w1→Calls Tryz.prog 37 #[.pointer (some ⟨x,0,none⟩)] w1 λe w'=>e=.returned (.tuple #[])∧P w') :
  Calls Tryz.prog 11 #[.pointer (some ⟨x,0,none⟩),actV 9 who best keep body] w λe w'=>e=.returned (.int .i64 0)∧P w':=by
 have HH:=Hm H
 have hp:=World.block_lt_of_cell? w _ hx
 dsimp only at hp
 clear H
 unfold actV
 go_enter Tryz.func11,Tryz.ntmps11
 go_wp2_with fail
 refine(HH.o _ (bA (bR w) _)).mono ?_
 rintro e w1 ⟨rfl,hP⟩
 have HP:=Hm hP
 clear hP
 go_wp2_with fail
 go_ret
 exact⟨rfl,HP.o⟩
theorem do_tick (x:Nat) (w:World) (r:Int) (P:World→Prop) (who:Int) (best:Bool) (keep body:Value) (hk:keep.oneCell'=true) (hb:body.oneCell'=true)
  (H:∀ w1,Bel w w1→Calls Tryz.prog 28 #[.pointer (some ⟨x,0,none⟩)] w1 λe w'=>e=.returned (.int .i64 r)∧P w') :
  Calls Tryz.prog 11 #[.pointer (some ⟨x,0,none⟩),actV 1 who best keep body] w λe w'=>e=.returned (.int .i64 r)∧P w':=by
 have HH:=Hm H
 clear H
 unfold actV
 go_enter Tryz.func11,Tryz.ntmps11
 go_wp2_with fail
 refine(HH.o _ (bA (bR w) _)).mono ?_
 rintro e w1 ⟨rfl,hP⟩
 have HP:=Hm hP
 clear hP
 go_wp2_with fail
 go_ret
 exact⟨rfl,HP.o⟩
theorem do_work (x:Nat) (w:World) (r:Int) (P:World→Prop) (who:Int) (best:Bool) (keep body:Value) (hk:keep.oneCell'=true) (hb:body.oneCell'=true)
  (H:∀ w1,Bel w w1→Calls Tryz.prog 29 #[.pointer (some ⟨x,0,none⟩),.int .i64 who,.bool best] w1 λe w'=>e=.returned (.int .i64 r)∧P w') :
  Calls Tryz.prog 11 #[.pointer (some ⟨x,0,none⟩),actV 2 who best keep body] w λe w'=>e=.returned (.int .i64 r)∧P w':=by
 have HH:=Hm H
 clear H
 unfold actV
 go_enter Tryz.func11,Tryz.ntmps11
 go_wp2_with fail
 refine(HH.o _ (bA (bR w) _)).mono ?_
 rintro e w1 ⟨rfl,hP⟩
 have HP:=Hm hP
 clear hP
 go_wp2_with fail
 go_ret
 exact⟨rfl,HP.o⟩
theorem st0_conf:CfOk st0:=⟨by simp[st0],by simp[st0],by simp[st0],by simp[st0],by simp[st0],by simp[st0],by simp[st0],by simp[st0];exact fun0_ok⟩
theorem st0_ok:StOk st0:=⟨by simp[st0],by simp[st0],by simp[st0,Ls.bad],by simp[st0,Ls.bad],by simp[st0,Ls.bad],by simp[st0],by simp[st0],rfl⟩
theorem fs0_fine:FsFine st0.fs:=⟨by simp[st0,fun0];decide,by simp[st0,fun0,binI],by simp[st0,fun0]⟩
theorem code0_len:(encCode code0).length≤20:=by
 simp[encCode,code0,encBlocks,encBlock,encIns,encEnd,flatL,bin0,filI,leb_small]
theorem rec0_len:(recB 0 (encCode code0)).length≤30:=by
 have h1:=code0_len
 have h2:=leb_len10 (n:=0) (by omega)
 unfold recB
 rw[List.length_append]
 omega
theorem room0:roomFor st1 0 (encCode code0)≤1000:=by
 have h1:=rec0_len
 have h2:=leb_len10 (n:=(recB 0 (encCode code0)).length) (by omega)
 have h3:(laid (recsOf st1.js)).length=0:=rfl
 unfold roomFor
 rw[h3]
 unfold layF
 simp only[List.length_cons,List.length_append,four_len]
 omega
theorem tell0_ok:TellOk st1 0 1 code0 cert0:=⟨by simp[st1,st0],by omega,by omega,rfl,code0_ok,code0_fine,by simp[cert0],cert0_fine,by have:=tell0_len 0 1 (by omega) (by omega);omega,λh=>code0_ver⟩
theorem awake_any (w:World) (ht:TabOk w):Calls Tryz.prog 7 #[] w λe w'=>e=.returned (.bool true)∧Bel w w':=by
 have HT:=Hm ht
 have hz:=World.block_lt_of_cell? w _ ht.1
 dsimp only at hz
 clear ht
 go_enter Tryz.func7,Tryz.ntmps7
 go_wp2_with fail
 have hfz:Kd.SK kI w (λ_=>True) ([]:List Int) (.slice none 0 0):=Kd.SK.nil 0 (by simp[maxLen]) none
 have hI:=sk_one (k:=kIns) w (λ_=>True) binI [.int .u8 3,.int .u8 1,.int .i64 1,.int .i64 0,.int .i64 0,.int .i64 0,.slice none 0 0] 91 w.heap.size rfl trivial (kIns_mk (i:=binI) ⟨rfl,rfl,rfl,rfl,rfl,rfl⟩ (sk_bel hfz (bA (bR w) _)))
 have hb1:Bel w (w.alloc (.cells #[.int .u8 3,.int .u8 1,.int .i64 1,.int .i64 0,.int .i64 0,.int .i64 0,.slice none 0 0] 91)):=bA (bR w) _
 have hz1:(w.alloc (.cells #[.int .u8 3,.int .u8 1,.int .i64 1,.int .i64 0,.int .i64 0,.int .i64 0,.slice none 0 0] 91)).heap.size=w.heap.size+1:=by simp
 have hI':Kd.SK kIns (w.alloc (.cells #[.int .u8 3,.int .u8 1,.int .i64 1,.int .i64 0,.int .i64 0,.int .i64 0,.slice none 0 0] 91)) (λ_=>True) [binI] (.slice (some ⟨w.heap.size,0,none⟩) 1 1):=hI
 clear hI
 generalize w.alloc (.cells #[.int .u8 3,.int .u8 1,.int .i64 1,.int .i64 0,.int .i64 0,.int .i64 0,.slice none 0 0] 91)=w1 at hI' hb1 hz1⊢
 have hB:Kd.SK kBlock (w1.alloc (.cells #[.slice (some ⟨w.heap.size,0,none⟩) 1 1,.int .u8 3,.int .i64 1,.int .i64 0,.int .i64 0] 97)) (λ_=>True) fun0.blocks (.slice (some ⟨w.heap.size+1,0,none⟩) 1 1) :=
  sk_one (k:=kBlock) w1 (λ_=>True) ⟨[binI],retE⟩ [.slice (some ⟨w.heap.size,0,none⟩) 1 1,.int .u8 3,.int .i64 1,.int .i64 0,.int .i64 0] 97 (w.heap.size+1) hz1.symm trivial (kBlock_mk (b:=⟨[binI],retE⟩) ⟨rfl,rfl,rfl,rfl⟩ (sk_bel hI' (bA (bR _) _)))
 have hb2:=bA hb1 (.cells #[.slice (some ⟨w.heap.size,0,none⟩) 1 1,.int .u8 3,.int .i64 1,.int .i64 0,.int .i64 0] 97)
 have hz2:(w1.alloc (.cells #[.slice (some ⟨w.heap.size,0,none⟩) 1 1,.int .u8 3,.int .i64 1,.int .i64 0,.int .i64 0] 97)).heap.size=w.heap.size+1+1:=by simp[hz1]
 generalize w1.alloc (.cells #[.slice (some ⟨w.heap.size,0,none⟩) 1 1,.int .u8 3,.int .i64 1,.int .i64 0,.int .i64 0] 97)=w2 at hB hb2 hz2⊢
 have hb3:=bA hb2 (.cells #[.int .i64 1,.int .i64 2,.slice (some ⟨w.heap.size+1,0,none⟩) 1 1] 99)
 have hB3:=sk_bel hB (bA (bR w2) (.cells #[.int .i64 1,.int .i64 2,.slice (some ⟨w.heap.size+1,0,none⟩) 1 1] 99))
 have hz3:(w2.alloc (.cells #[.int .i64 1,.int .i64 2,.slice (some ⟨w.heap.size+1,0,none⟩) 1 1] 99)).heap.size=w.heap.size+1+1+1:=by simp[hz2]
 generalize w2.alloc (.cells #[.int .i64 1,.int .i64 2,.slice (some ⟨w.heap.size+1,0,none⟩) 1 1] 99)=w3 at hB3 hb3 hz3⊢
 have hF:Kd.SK kFunc (w3.alloc (.cells #[.int .i64 1,.int .i64 2,.slice (some ⟨w.heap.size+1,0,none⟩) 1 1] 99)) (λ_=>True) st0.fs (.slice (some ⟨w.heap.size+1+1+1,0,none⟩) 1 1) :=
  sk_one (k:=kFunc) w3 (λ_=>True) fun0 [.int .i64 1,.int .i64 2,.slice (some ⟨w.heap.size+1,0,none⟩) 1 1] 99 (w.heap.size+1+1+1) hz3.symm trivial (kFunc_mk (f:=fun0) rfl rfl (sk_bel hB3 (bA (bR _) _)))
 have hb4:=bA hb3 (.cells #[.int .i64 1,.int .i64 2,.slice (some ⟨w.heap.size+1,0,none⟩) 1 1] 99)
 generalize w3.alloc (.cells #[.int .i64 1,.int .i64 2,.slice (some ⟨w.heap.size+1,0,none⟩) 1 1] 99)=X at hF hb4⊢
 have HB4:=Hm hb4
 clear hfz hI' hb1 hz1 hB hb2 hz2 hb3 hB3 hz3
 refine(new_farm st0 st0_conf st0_ok rfl fs0_fine _ _ X hF 0 (Nat.zero_le _) (λ_ _=>Nat.zero_le _)).mono ?_
 rintro e w5 ⟨x,ow,h,jobs,rfl,hb5,how,f5,u5,rfl⟩
 have HB5:=Hm (bT hb4 hb5)
 have HF5:=Hm (And.intro f5 u5)
 have hX:=hb4.size
 replace how:∀ b,b < X.heap.size→ow b=0:=λb hb=>by rw[how b hb,if_neg (by omega)]
 have HW:=Hm (And.intro (how 0 (by omega)) (λb (hb:b < w.heap.size)=>how b (by omega)))
 clear hF hb4 hb5 how f5 u5 hX
 go_wp2_with fail
 refine(do_tick x w5 0 _ 0 false (.slice none 0 0) (.slice none 0 0) rfl rfl (λw6 hb=>(tick_one w6 ow x h (HF5.o.1.bel hb) (HF5.o.2.bel hb)).mono (λe w' he=>⟨he.1,(⟨w6,hb,he.2⟩:∃ w6,Bel w5 w6∧∃ h',Turn w6 w' ow ow (λn=>n=4∨n=5∨n=11)∧Farm w' ow x st1 h' [[],[ask0]]∧FarmUp w' ow st1 h' [job1] 1)⟩))).mono ?_
 rintro e w7 ⟨rfl,w6,hb6,h7,t7,f7,u7⟩
 have hO7:Only w5 w7 (λb=>ow b≠0):=Only.belLeft hb6 (t7.only.weaken (λb _ e=>by omega))
 have HO7:=Hm (Only.belLeft HB5.o hO7)
 have HF7:=Hm (And.intro f7 (And.intro u7 (TabOk.turn (HT.o.bel (bT HB5.o hb6)) t7 (by rw[HW.o.1];omega))))
 clear hb6 t7 f7 u7 hO7 HF5
 go_wp2_with fail
 refine(do_work x w7 0 _ 0 false (.slice none 0 0) (.slice none 0 0) rfl rfl (λw8 hb=>(work_one w8 ow x h7 (HF7.o.1.bel hb) (HF7.o.2.1.bel hb) (HF7.o.2.2.bel hb) HW.o.1).mono (λe w' he=>⟨he.1,(⟨w8,hb,he.2⟩:∃ w8,Bel w7 w8∧∃ h',Turn w8 w' ow ow (λn=>n=10∨n=11)∧Farm w' ow x st1 h' [[letterOf 0 1 code0 cert0],[]]∧FarmUp w' ow st1 h' [job1] 1)⟩))).mono ?_
 rintro e w9 ⟨rfl,w8,hb8,h9,t9,f9,u9⟩
 have HO9:=Hm (HO7.o.trans (Only.belLeft hb8 (t9.only.weaken (G:=λb=>ow b≠0) (λb _ e=>by omega))) (λb _ e=>e))
 have HF9:=Hm (And.intro f9 u9)
 clear hb8 t9 f9 u9 HF7 HO7
 go_wp2_with fail
 have hl9:=(HF9.o.1.letters 0 (by have:=HF9.o.1.lens.1;simp[st1,st0] at this;omega))
 obtain⟨v9,hv9⟩:∃ v9,h9.bxs.getD 0 []=[v9]:=List.length_eq_one_iff.1 hl9.1
 obtain⟨A9,c9,hv9'⟩:∃ A c,v9=.slice A (letterOf 0 1 code0 cert0).length c:=by
  have h1:=hl9.2
  simp only[hv9] at h1
  obtain⟨A,c,e,-⟩:=h1 0 (by simp) (by simp)
  exact⟨A,c,e⟩
 rw[hv9'] at hv9
 have hroom:=room0
 have hrec:(recB 0 (encCode code0)).length≤65536:=by have:=rec0_len;omega
 refine(do_take x w9 0 _ 0 false (.slice none 0 0) (.slice none 0 0) rfl rfl (λw10 hb=>(take_ok w10 ow x st1 h9 _ (HF9.o.1.bel hb) (by simp[st1,st0]) _ _ (HF9.o.2.bel hb) 0 1 code0 cert0 tell0_ok (by simp[st1,st0]) A9 c9 [] [] hv9 rfl hrec hroom (by simp[st1,st0]) (by simp[st1,st0])).mono (λe w' he=>⟨he.1,(⟨w10,hb,he.2⟩:∃ w10,Bel w9 w10∧∃ jobs',TookPost w10 ow x { st1 with js:=st1.js++[(0,encCode code0)] } h9 ([[letterOf 0 1 code0 cert0],[]].set 0 []) jobs' 1 w')⟩))).mono ?_
 rintro e w11 ⟨rfl,w10,hb10,jobs',ow',h11,t11,f11,u11⟩
 have HO11:=Hm (HO9.o.trans (Only.belLeft hb10 t11.only) (λb _ e=>e))
 have HF11:=Hm (And.intro f11 u11)
 clear hb10 t11 f11 u11 HF9 HO9 hl9 hv9 hv9'
 go_wp2_with fail
 refine(jobs_rows w11 ow' x _ h11 _ HF11.o.1 jobs' 1 HF11.o.2).mono ?_
 rintro e w12 ⟨hb12,vj,rfl,hj12⟩
 have hjl:jobs'.length=1:=HF11.o.2.len
 have hjd:=HF11.o.2.done 0 (by omega)
 obtain⟨gj,cj,rfl,hgj,-,hcj⟩:=hj12.form (by omega)
 have y0:=hcj 0 (by omega) 0 (by omega)
 rw[hjl]
 have hdt:decide (0∈({ st1 with js:=st1.js++[(0,encCode code0)] }:FSt).js.map (·.1))=true:=by simp[st1,st0]
 rw[show jobs'[0].cells[0]?=some (.bool jobs'[0].done) from rfl,hjd,hdt] at y0
 replace y0:w12.cell? ⟨gj,0,none⟩=some (.bool true):=y0
 have HF12:=Hm (And.intro (HF11.o.1.bel hb12) (HF11.o.2.bel hb12))
 have HB12:=Hm (Only.trans (G:=λ_=>False) HO11.o (Only.bel hb12) (λ_ _ e=>e.elim))
 clear hb12 hj12 hcj HF11 HO11
 go_wp2_with fail
 have hcode:=code_some w12 ow' x { st1 with js:=st1.js++[(0,encCode code0)] } h11 _ HF12.o.1 jobs' 1 HF12.o.2 0 (by simp[st1,st0]) code0 code0_ok code0_fine rfl (by have:=code0_len;omega)
 refine hcode.mono ?_
 rintro e w13 ⟨hb13,v13,rfl,hk13⟩
 obtain⟨A13,c13,rfl,-⟩:=sk_form hk13
 have y0':=bCell hb13 y0
 have hgl:=World.block_lt_of_cell? w13 _ y0'
 dsimp only at hgl
 have hfb:Bel w w13:=((HB12.o.trans (G:=λ_=>False) (Only.bel hb13) (λ_ _ e=>e.elim))).toBel (λb hb e=>e (HW.o.2 b hb))
 have HFb:=Hm hfb
 clear hb13 hk13 hfb
 rw[show code0.params=1 from rfl,show code0.regs=3 from rfl,show code0.slots=1 from rfl]
 go_wp2_with fail
 exact bodyPost_ret (v:=.bool true) (by simp[results,Tryz.results7,go_sem]) rfl ⟨rfl,bA HFb.o _⟩
theorem strOf {w:World} {A:Option Addr} {l:List UInt8} (h:Bytes w A l) (c:Nat):(convert 38 9 (.slice A l.length c)).run Tryz.prog w=.ok (.string ⟨l.toArray⟩) w:=by
 have h38:Tryz.prog.underlying 38=some (.slice 5):=by kernel_rfl
 have h5:Tryz.prog.underlying 5=some (.int .u8):=by kernel_rfl
 have h9:Tryz.prog.underlying 9=some .string:=by kernel_rfl
 cases A with
 |none =>
  cases l with
  |nil=>exact Go.Lib.run_convert_nil_bytes w 38 9 5 c h38 h5 h9
  |cons x r =>
   obtain⟨b,off,e,-⟩:=h 0 (by simp)
   cases e
 |some a =>
  refine run_convert_bytes_back w 38 9 5 a c l h38 h5 h9 (λj hj=>?_)
  obtain⟨b,off,e,hc⟩:=h j (by simpa using hj)
  cases e
  rw[show (⟨b,off,none⟩:Addr).add j=⟨b,off+j,none⟩ from by unfold Addr.add;split<;>simp_all]
  simpa [byteV] using hc
theorem FarmUp.same {w:World} {ow:Nat→Nat} {st:FSt} {h h':Hds} {jobs:List Ls.Job} {last:Nat} (u:FarmUp w ow st h jobs last) (e1:h'.bp=h.bp) (e2:h'.tp=h.tp) (e3:h'.pf=h.pf):FarmUp w ow st h' jobs last:=by
 obtain⟨⟨pb,base,ok,kv,vv,pt,Bt,a1,a2,a3⟩,hl,hd⟩:=u
 exact⟨⟨pb,base,ok,kv,vv,pt,Bt,by rw[e1];exact a1,by rw[e2];exact a2,by rw[e3];exact a3⟩,hl,hd⟩
theorem Farm.letter {w:World} {ow:Nat→Nat} {x:Nat} {st:FSt} {h:Hds} {lt:List (List (List UInt8))} (f:Farm w ow x st h lt) (L:List UInt8) (hl:lt.getD 0 []=[L]):∃ A c,h.bxs.getD 0 []=[.slice A L.length c]:=by
 have hl9:=f.letters 0 (by have:=f.lens.1;omega)
 rw[hl] at hl9
 obtain⟨v9,hv9⟩:∃ v9,h.bxs.getD 0 []=[v9]:=List.length_eq_one_iff.1 hl9.1
 have h1:=hl9.2
 simp only[hv9] at h1
 obtain⟨A,c,e,-⟩:=h1 0 (by simp) (by simp)
 exact⟨A,c,by rw[hv9];simpa using e⟩
def SentUp (w:World) (ow:Nat→Nat) (x:Nat) (st:FSt) (L:List UInt8) (jobs:List Ls.Job) (last:Nat) (w':World):Prop :=
 ∃ h',Turn w w' ow ow (λn=>n=10)∧Farm w' ow x st h' (List.replicate (st.workers+1) [] |>.set 0 [L])∧FarmUp w' ow st h' jobs last
theorem send_up (w:World) (ow:Nat→Nat) (x:Nat) (st:FSt) (h:Hds) (f:Farm w ow x st h (List.replicate (st.workers+1) [])) (hw3:st.workers≤3) (hb:0 < st.box) (jobs:List Ls.Job) (last:Nat) (u:FarmUp w ow st h jobs last) (L:List UInt8) (A:Option Addr) (c:Nat) (hA:Bytes w A L) (hl:L.length≤131072) (hc:L.length≤c) :
  Calls Tryz.prog 11 #[.pointer (some ⟨x,0,none⟩),actV 7 0 false (.slice none 0 0) (.slice A L.length c)] w λe w'=>e=.returned (.int .i64 0)∧SentUp w ow x st L jobs last w':=by
 have h0:(List.replicate (st.workers+1) ([]:List (List UInt8))).getD 0 []=[]:=by simp[List.replicate_succ]
 refine(send_ok w ow x st h _ f hw3 (by rw[h0];exact hb) (.slice none 0 0) rfl false L A c hA hl hc).mono ?_
 rintro e w' ⟨rfl,h',t,f',e1,e2,e3,e4⟩
 rw[h0] at f'
 exact⟨rfl,h',t,f',(u.turn t (λn e=>by omega)).same e1 e2 e3⟩
theorem set_back (n:Nat) (L:List UInt8):(((List.replicate (n+1) ([]:List (List UInt8))).set 0 [L]).set 0 [])=List.replicate (n+1) []:=by simp[List.replicate_succ]
def TookUp (w:World) (ow:Nat→Nat) (x:Nat) (st:FSt) (last:Nat) (w':World):Prop :=
 ∃ ow' h' jobs',Turn w w' ow ow' (λn=>n≠0)∧Farm w' ow' x st h' (List.replicate (st.workers+1) [])∧FarmUp w' ow' st h' jobs' last
theorem TookUp.from {w w0 w':World} {ow:Nat→Nat} {x:Nat} {st:FSt} {last:Nat} (hb:Bel w0 w) (h:TookUp w ow x st last w'):TookUp w0 ow x st last w':=by
 obtain⟨ow',h',jobs',t,f,u⟩:=h
 exact⟨ow',h',jobs',⟨Only.belLeft hb t.only,λb hb'=>t.old b (Nat.lt_of_lt_of_le hb' hb.size),t.zero⟩,f,u⟩
theorem take_up (w:World) (ow:Nat→Nat) (x:Nat) (st:FSt) (h:Hds) (job lease:Nat) (c:Code) (cert:List (List PairV)) (f:Farm w ow x st h (List.replicate (st.workers+1) [] |>.set 0 [letterOf job lease c cert])) (hw3:st.workers≤3) (jobs:List Ls.Job) (last:Nat) (u:FarmUp w ow st h jobs last) (ht:TellOk st job lease c cert) (hd:job∉st.js.map (·.1))
  (hlr:(recB job (encCode c)).length≤65536) (hr:roomFor st job (encCode c)≤st.room) (hup:∀ p∈st.js,p.1 < job) (hfew:st.js.length < 1000) :
  Calls Tryz.prog 11 #[.pointer (some ⟨x,0,none⟩),actV 3 0 false (.slice none 0 0) (.slice none 0 0)] w λe w'=>e=.returned (.int .i64 0)∧TookUp w ow x { st with js:=st.js++[(job,encCode c)] } last w':=by
 have hl:(List.replicate (st.workers+1) ([]:List (List UInt8)) |>.set 0 [letterOf job lease c cert]).getD 0 []=[letterOf job lease c cert]:=by simp[List.replicate_succ]
 obtain⟨A,ca,hv⟩:=f.letter _ hl
 refine do_take x w 0 _ 0 false (.slice none 0 0) (.slice none 0 0) rfl rfl (λw1 hb=>(take_ok w1 ow x st h _ (f.bel hb) hw3 jobs last (u.bel hb) job lease c cert ht hd A ca [] [] hv hl hlr hr hup hfew).mono ?_)
 rintro e w' ⟨rfl,jobs',ow',h',t,f',u'⟩
 rw[set_back] at f'
 exact⟨rfl,TookUp.from hb ⟨ow',h',jobs',t,f',u'⟩⟩
theorem take_again (w:World) (ow:Nat→Nat) (x:Nat) (st:FSt) (h:Hds) (job lease:Nat) (c:Code) (cert:List (List PairV)) (f:Farm w ow x st h (List.replicate (st.workers+1) [] |>.set 0 [letterOf job lease c cert])) (hw3:st.workers≤3) (jobs:List Ls.Job) (last:Nat) (u:FarmUp w ow st h jobs last) (ht:TellOk st job lease c cert) (hd:job∈st.js.map (·.1)) :
  Calls Tryz.prog 11 #[.pointer (some ⟨x,0,none⟩),actV 3 0 false (.slice none 0 0) (.slice none 0 0)] w λe w'=>e=.returned (.int .i64 61)∧TookUp w ow x st last w':=by
 have hl:(List.replicate (st.workers+1) ([]:List (List UInt8)) |>.set 0 [letterOf job lease c cert]).getD 0 []=[letterOf job lease c cert]:=by simp[List.replicate_succ]
 obtain⟨A,ca,hv⟩:=f.letter _ hl
 refine do_take x w 61 _ 0 false (.slice none 0 0) (.slice none 0 0) rfl rfl (λw1 hb=>(take_done w1 ow x st h _ (f.bel hb) hw3 jobs last (u.bel hb) job lease c cert ht hd A ca [] [] hv hl).mono ?_)
 rintro e w' ⟨rfl,ow',h',t,f',u'⟩
 rw[set_back] at f'
 exact⟨rfl,TookUp.from hb ⟨ow',h',_,t,f',u'⟩⟩
theorem fall_up (w:World) (ow:Nat→Nat) (x:Nat) (st:FSt) (h:Hds) (f:Farm w ow x st h (List.replicate (st.workers+1) [])) (jobs:List Ls.Job) (last:Nat) (u:FarmUp w ow st h jobs last) :
  Calls Tryz.prog 11 #[.pointer (some ⟨x,0,none⟩),actV 8 0 false (.slice none 0 0) (.slice none 0 0)] w λe w'=>e=.returned (.int .i64 0)∧∃ h',Turn w w' ow ow (λn=>n≠0)∧Farm w' ow x st h' (List.replicate (st.workers+1) [])∧h'.bp=.pointer none∧h'.tp=.pointer none:=by
 refine do_crash x w 0 _ 0 false none 0 0 (.slice none 0 0) rfl (λw1 hb=>(crash_ok w1 ow x st h _ (f.bel hb) jobs last (u.bel hb) none 0 0).mono ?_)
 rintro e w' ⟨rfl,h',t,f',e1,e2⟩
 exact⟨rfl,h',⟨Only.belLeft hb t.only,λb hb'=>t.old b (Nat.lt_of_lt_of_le hb' hb.size),t.zero⟩,f',e1,e2⟩
theorem rise_up (w:World) (ow:Nat→Nat) (x:Nat) (st:FSt) (h:Hds) (f:Farm w ow x st h (List.replicate (st.workers+1) [])) (e1:h.bp=.pointer none) (e2:h.tp=.pointer none) (hj:JsOk st) (hs:StOk st) :
  Calls Tryz.prog 11 #[.pointer (some ⟨x,0,none⟩),actV 9 0 false (.slice none 0 0) (.slice none 0 0)] w λe w'=>e=.returned (.int .i64 0)∧TookUp w ow x st 0 w':=by
 refine do_start x w _ 0 false (.slice none 0 0) (.slice none 0 0) rfl rfl (by rw[f.cell 11];simp[farmCells,e2]) (λw1 hb=>(start_ok w1 ow x st h _ (f.bel hb) hj hs (by rw[e1];rfl) (by rw[e2];rfl)).mono ?_)
 rintro e w' ⟨rfl,ow',h',jobs,t,f',u',-⟩
 exact⟨rfl,TookUp.from hb ⟨ow',h',jobs,t.coarse,f',u'⟩⟩
end Go.Proofs.YtjkgligohegaeaaGreatDoor
