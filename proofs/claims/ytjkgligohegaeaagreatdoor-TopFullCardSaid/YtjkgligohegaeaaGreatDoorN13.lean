/- Lemmas of the row. -/
import Derived.Test.YtjkgligohegaeaaGreatDoorN12
set_option linter.all false
set_option maxRecDepth 20000
set_option maxHeartbeats 12800000
namespace Go.Proofs.YtjkgligohegaeaaGreatDoor
inductive Tr where
 |nil
 |rd (i:Nat) (r:Tr)
 |hv (i:Nat) (pend:List Nat) (r:Tr)
 |br (i:Nat) (pend:List Nat) (r other:Tr)
section
variable (P:Program) (ops:Array Oper) (Q:Exit→Act→World→Prop)
def TreeL:Tr→Act→World→Prop
 |.nil,a,w=>Q .normal a w
 |.rd i r,a,w=>match ops[i]? with
  |none=>False
  |some o=>if Region.wanted o (yielded ops a.tmps) then o.quiet P a (λx=>x=w) (λa'=>TreeL r a' w) else TreeL r (a.put o.dst undef) w
 |.hv i pend r,a,w=>match ops[i]? with
  |none=>False
  |some o=>wpList P ops (λe a' w'=>e=.normal∧a'.defers=a.defers∧Again P ops a' w' pend∧TreeL r a' w') [o] a w
 |.br i pend r other,a,w=>(match ops[i]? with
  |none=>False
  |some o=>wpList P ops (λe a' w'=>e=.normal∧a'.defers=a.defers∧Again P ops a' w' pend∧TreeL r a' w') [o] a w)∧TreeL other a w
end
def heavyOk (ops:Array Oper) (i:Nat) (pend S H:List Nat):Bool:=decide (i < ops.size) && !S.contains i && (depsAt ops i).all S.contains &&
 S.all (λk=>(upOf ops ops.size (depsAt ops i++H)).contains k || pend.contains k) && pend.all (λk=>S.contains k && noClob ops (i :: S) k)
def treeOk (ops:Array Oper):Tr→List Nat→List Nat→List Nat→Bool
 |.nil,S,E,H=>E.isEmpty && (List.range ops.size).all S.contains
 |.rd i r,S,E,H=>E.isEmpty && decide (i < ops.size) && !S.contains i && (depsAt ops i).all S.contains && treeOk ops r (i :: S) [] H
 |.hv i pend r,S,E,H=>heavyOk ops i pend S H && (List.range ops.size).all (λk=>S.contains k || k == i || E.contains k || !(depsAt ops k).all S.contains) && treeOk ops r (i :: S) [] (i :: H)
 |.br i pend r other,S,E,H=>heavyOk ops i pend S H && treeOk ops r (i :: S) [] (i :: H) && treeOk ops other S (i :: E) H
section
variable {P:Program} {ops:Array Oper} {Q:Exit→Act→World→Prop}
theorem tree_rd {i:Nat} {r:Tr} {a:Act} {w:World} {o:Oper} (ho:ops[i]?=some o)
  (h:∀ K:Act→Prop,(∀ a,TreeL P ops Q r a w→K a)→if Region.wanted o (yielded ops a.tmps) then o.quiet P a (λx=>x=w) K else K (a.put o.dst undef)):TreeL P ops Q (.rd i r) a w:=by
 unfold TreeL
 simp only[ho]
 exact h _ (λ_ h=>h)
theorem tree_hv {i:Nat} {pend:List Nat} {r:Tr} {a:Act} {w:World} {o:Oper} (ho:ops[i]?=some o)
  (h:wpList P ops (λe a' w'=>e=.normal∧a'.defers=a.defers∧Again P ops a' w' pend∧TreeL P ops Q r a' w') [o] a w):TreeL P ops Q (.hv i pend r) a w:=by
 unfold TreeL
 simp only[ho]
 exact h
theorem tree_br {i:Nat} {pend:List Nat} {r other:Tr} {a:Act} {w:World} {o:Oper} (ho:ops[i]?=some o)
  (h:wpList P ops (λe a' w'=>e=.normal∧a'.defers=a.defers∧Again P ops a' w' pend∧TreeL P ops Q r a' w') [o] a w) (h2:TreeL P ops Q other a w):TreeL P ops Q (.br i pend r other) a w:=by
 unfold TreeL
 simp only[ho]
 exact⟨h,h2⟩
variable {a:Act}
theorem tree_heavy (hok:relyOk ops=true) (hdst:∀ j t,dstOf ops j=some t→t < a.tmps.size) {real:Array Bool} {ar:Act} {w:World} {i:Nat} {o:Oper} (ho:ops[i]?=some o)
  (hl:real.getD i false=false) (hdeps:∀ j∈depsOf o,real.getD j false=true) (K:Act→World→Prop)
  (hK:∀ (vs:Nat→Value) (can:Array Bool) (S H:List Nat) (ar' ac:Act) (w':World) (plan:Tr),treeOk ops plan S [] H=true→(∀ k∈H,(real.setIfInBounds i true).getD k false=true)→Stand P ops a vs (real.setIfInBounds i true) can S ar' ac w'→TreeL P ops Q plan ac w'→K ar' w')
  (pend:List Nat) (rest:Tr) (S H:List Nat) (hH:∀ k∈H,real.getD k false=true) (vs:Nat→Value) (can:Array Bool) (ac:Act) (h:Stand P ops a vs real can S ar ac w) (hci:can.getD i false=false)
  (hline:wpList P ops (λe a' w'=>e=.normal∧a'.defers=ac.defers∧Again P ops a' w' pend∧TreeL P ops Q rest a' w') [o] ac w)
  (hup:S.all (λk=>(upOf ops ops.size (depsAt ops i++H)).contains k || pend.contains k)=true) (hpend:pend.all (λk=>S.contains k && noClob ops (i :: S) k)=true) (hrest:treeOk ops rest (i :: S) [] (i :: H)=true):wpOp P ops Q i K ar w:=by
 have hlt:i < ops.size:=(Array.getElem?_eq_some_iff.1 ho).1
 obtain⟨hpl,hdl,hlook,hone⟩:=relyOk_at hok ho
 have hsr:=Sof.same hok hdst h.real_ ho hl hdeps
 have hdc:∀ j∈depsOf o,can.getD j false=true:=λj hj=>h.sub j (hdeps j hj)
 have hsc:=Sof.same hok hdst h.can_ ho hci hdc
 have hsame:∀ t∈o.looksAt ops,ar.tmps[t]?=ac.tmps[t]?:=λt ht=>(hsr t ht).trans (hsc t ht).symm
 refine one_line ho hline hpl (λx hx=>eval_same x λt e=>hsame t (looks_operand (by rw[←e];exact hx))) (wanted_same hsame) ?_
 rintro v w' ⟨hag,hnext⟩
 have hsetr:∀ j d,(real.setIfInBounds i true).getD j d=if i=j then true else real.getD j d:=λj d=>getD_set real i j (by rw[(h.real_ default).size];exact hlt) d
 have hsetc:∀ j d,(can.setIfInBounds i true).getD j d=if i=j then true else can.getD j d:=λj d=>getD_set can i j (by rw[(h.can_ default).size];exact hlt) d
 have hcan':Sof ops a (λj=>if j=i then v else vs j) (can.setIfInBounds i true) (ac.put o.dst v):=Sof.put hok h.can_ ho hci hdc (by simp) (λj hj=>by simp[hj])
 have hmem':∀ j,(can.setIfInBounds i true).getD j false=true↔j∈i :: S:=by
  intro j
  rw[hsetc,List.mem_cons]
  by_cases hij:i=j
  ·simp[hij]
  ·rw[if_neg hij,h.mem j]
   simp[Ne.symm hij]
 refine hK (λj=>if j=i then v else vs j) (can.setIfInBounds i true) (i :: S) (i :: H) _ _ w' rest hrest (λk hk=>by
  rw[hsetr]
  split
  ·rfl
  ·rename_i hne
   rcases List.mem_cons.1 hk with e|hk
   ·exact absurd e.symm hne
   ·exact hH k hk) ⟨Sof.put hok h.real_ ho hl hdeps (by simp) (λj hj=>by simp[hj]),hcan',hmem',?_,?_⟩ hnext
 ·intro j hj
  rw[hsetr] at hj
  rw[hsetc]
  split
  ·rfl
  ·rename_i hij
   rw[if_neg hij] at hj
   exact h.sub j hj
 ·intro k q hq' hck hrk
  rw[hsetr] at hrk
  rw[hsetc] at hck
  by_cases hij:i=k
  ·rw[if_pos hij] at hrk;cases hrk
  ·rw[if_neg hij] at hrk hck
   have hkS:=(h.mem k).1 hck
   have h1:=List.all_eq_true.1 hup k hkS
   have hkp:k∈pend:=by
    simp only[Bool.or_eq_true] at h1
    rcases h1 with h1|h1
    ·exfalso
     have:=up_listed (listed:=real) (h.real_ w).closed ops.size (depsAt ops i++H) (λj hj=>by
     rcases List.mem_append.1 hj with hj|hj
     ·exact hdeps j (by unfold depsAt at hj;rw[ho] at hj;exact hj)
     ·exact hH j hj) k (by simpa using h1)
     rw[hrk] at this;cases this
    ·simpa using h1
   have h2:=List.all_eq_true.1 hpend k hkp
   simp only[Bool.and_eq_true] at h2
   have hA:∀ l:List Nat,Again P ops (ac.put o.dst v) w' l→k∈l→if Region.wanted q (yielded ops (ac.put o.dst v).tmps) then q.quietAt P (ac.put o.dst v) (λx=>x=w') w' (slotOf q (ac.put o.dst v)) else slotOf q (ac.put o.dst v)=undef:=by
    intro l
    induction l with
    |nil=>intro _ hk;cases hk
    |cons x xs ihx =>
     intro hA hk
     rcases List.mem_cons.1 hk with rfl|hk
     ·have:=hA.1
      rw[hq'] at this
      exact this
     ·exact ihx hA.2 hk
   have hk2:=hA pend hag hkp
   have hdk:∀ j∈depsOf q,(can.setIfInBounds i true).getD j false=true:=λj hj=>by
    rw[hsetc]
    split
    ·rfl
    ·exact(h.can_ w).closed k q hq' hck j hj
   have hsaw:=Sof.saw hok hdst hcan' hq' (λj hj=>(hmem' j).1 hj) hdk h2.2
   obtain⟨hplq,-,-,-⟩:=relyOk_at hok hq'
   have hslot:slotOf q (ac.put o.dst v)=(if k=i then v else vs k)∨q.dst=none:=by
    cases hd:q.dst with
    |none=>exact .inr rfl
    |some t =>
     left
     have hdk':dstOf ops k=some t:=by unfold dstOf;rw[hq'];exact hd
     have:=(hcan' w).done t k (hdst k t hdk') hdk' (by rw[hsetc,if_neg hij];exact hck)
     unfold slotOf
     rw[hd]
     simp only[Array.getD_eq_getD_getElem?,this,Option.getD_some]
   rcases hslot with hsl|hnone
   ·refine YieldsIn.of_same (a:=ac.put o.dst v) ?_ (execOp_congr q (noSel hplq) λx hx=>(eval_same x λt e=>(hsaw t (looks_operand (by rw[←e];exact hx))).symm)) (wanted_same λt ht=>(hsaw t ht).symm)
    rw[hsl] at hk2
    unfold YieldsIn
    split at hk2
    ·rename_i hw
     refine .inl ⟨hw,?_⟩
     rintro x rfl
     exact hk2
    ·rename_i hw
     exact .inr ⟨by simpa using hw,hk2⟩
   ·have:=h2.2
    unfold noClob at this
    simp[hq',hnone] at this
theorem tree_step (hok:relyOk ops=true) (hdst:∀ j t,dstOf ops j=some t→t < a.tmps.size) {real:Array Bool} {ar:Act} {w:World} {i:Nat} {o:Oper} (ho:ops[i]?=some o)
  (hl:real.getD i false=false) (hdeps:∀ j∈depsOf o,real.getD j false=true) (K:Act→World→Prop)
  (hK:∀ (vs:Nat→Value) (can:Array Bool) (S H:List Nat) (ar' ac:Act) (w':World) (plan:Tr),treeOk ops plan S [] H=true→(∀ k∈H,(real.setIfInBounds i true).getD k false=true)→Stand P ops a vs (real.setIfInBounds i true) can S ar' ac w'→TreeL P ops Q plan ac w'→K ar' w') :
  ∀ (plan:Tr) (S E H:List Nat) (vs:Nat→Value) (can:Array Bool) (ac:Act),treeOk ops plan S E H=true→(∀ k∈H,real.getD k false=true)→i∉E→(can.getD i false=true→E=[])→Stand P ops a vs real can S ar ac w→TreeL P ops Q plan ac w→wpOp P ops Q i K ar w:=by
 have hlt:i < ops.size:=(Array.getElem?_eq_some_iff.1 ho).1
 obtain⟨hpl,hdl,hlook,hone⟩:=relyOk_at hok ho
 have shown:∀ (plan:Tr) (S H:List Nat) (vs:Nat→Value) (can:Array Bool) (ac:Act),treeOk ops plan S [] H=true→(∀ k∈H,real.getD k false=true)→Stand P ops a vs real can S ar ac w→TreeL P ops Q plan ac w→can.getD i false=true→wpOp P ops Q i K ar w:=by
  intro plan S H vs can ac hplan hH h hline hc
  have hy:=h.pend i o ho hc hl
  have hsame:=Sof.same hok hdst h.real_ ho hl hdeps
  have he:execOp ar.eval o=execOp (putsOn ops vs (depsOf o) a).eval o:=execOp_congr o (noSel hpl) λx hx=>eval_same x λt e=>hsame t (looks_operand (by rw[←e];exact hx))
  have hy':YieldsIn P ops (λx=>x=w) o (vs i) ar:=hy.of_same he (wanted_same hsame)
  have hst:Stand P ops a vs (real.setIfInBounds i true) can S (ar.put o.dst (vs i)) ac w:=by
   have hset:∀ j d,(real.setIfInBounds i true).getD j d=if i=j then true else real.getD j d:=λj d=>getD_set real i j (by rw[(h.real_ default).size];exact hlt) d
   refine⟨Sof.put hok h.real_ ho hl hdeps rfl (λ_ _=>rfl),h.can_,h.mem,λj hj=>?_,λk p hp hck hrk=>?_⟩
   ·rw[hset] at hj
    by_cases hij:i=j
    ·rw[←hij];exact hc
    ·rw[if_neg hij] at hj;exact h.sub j hj
   ·rw[hset] at hrk
    by_cases hij:i=k
    ·rw[if_pos hij] at hrk;cases hrk
    ·rw[if_neg hij] at hrk;exact h.pend k p hp hck hrk
  have hH':∀ k∈H,(real.setIfInBounds i true).getD k false=true:=λk hk=>by
   rw[getD_set real i k (by rw[(h.real_ default).size];exact hlt)]
   split
   ·rfl
   ·exact hH k hk
  have hres:=hK vs can S H _ ac w plan hplan hH' hst hline
  unfold wpOp
  simp only[ho]
  rcases hy' with ⟨hw,hv⟩|⟨hw,hv⟩
  ·rw[if_pos hw]
   left
   refine Oper.wp_of_quiet (C:=λx=>x=w) (K:=λa'=>a'=ar.put o.dst (vs i)) rfl ?_ ⟨vs i,hv,rfl⟩
   rintro a' w' rfl rfl
   exact hres
  ·rw[if_neg (by simp[hw])]
   rw[←hv]
   exact hres
 intro plan
 induction plan with
 |nil =>
  intro S E H vs can ac hplan hH hiE hcE h hline
  simp only[treeOk,Bool.and_eq_true] at hplan
  have hE:E=[]:=by simpa using hplan.1
  subst hE
  refine shown .nil S H vs can ac (by simp[treeOk,hplan.2]) hH h hline ((h.mem i).2 ?_)
  have:=List.all_eq_true.1 hplan.2 i (List.mem_range.2 hlt)
  simpa using this
 |rd r rest ih =>
  intro S E H vs can ac hplan hH hiE hcE h hline
  by_cases hci':can.getD i false=true
  ·obtain rfl:=hcE hci'
   exact shown _ S H vs can ac hplan hH h hline hci'
  have hci:can.getD i false=false:=by simpa using hci'
  simp only[treeOk,Bool.and_eq_true,decide_eq_true_eq,Bool.not_eq_true'] at hplan
  obtain⟨⟨⟨⟨hE,hrl⟩,hrS⟩,hrd⟩,hrest⟩:=hplan
  obtain⟨p,hp⟩:∃ p,ops[r]?=some p:=⟨_,Array.getElem?_eq_getElem hrl⟩
  have hcr:can.getD r false=false:=by
   rcases hh:can.getD r false with _|_
   ·rfl
   ·have:=(h.mem r).1 hh
    simp[this] at hrS
  have hdr:∀ j∈depsOf p,can.getD j false=true:=by
   intro j hj
   have:=List.all_eq_true.1 hrd j (by unfold depsAt;rw[hp];exact hj)
   exact(h.mem j).2 (by simpa using this)
  have hplp:=(relyOk_at hok hp).1
  have hdlp:=(relyOk_at hok hp).2.1
  have hq:Go.qOp P ops (λx=>x=w) r (λa'=>TreeL P ops Q rest a' w) ac:=by
   unfold Go.qOp
   simp only[hp]
   unfold TreeL at hline
   simp only[hp] at hline
   exact hline
  obtain⟨v,hy,hnext⟩:=yieldsIn_of_qOp hp hq
  have hrr:real.getD r false=false:=by
   rcases hh:real.getD r false with _|_
   ·rfl
   ·rw[h.sub r hh] at hcr;cases hcr
  have hset:∀ j d,(can.setIfInBounds r true).getD j d=if r=j then true else can.getD j d:=λj d=>getD_set can r j (by rw[(h.can_ default).size];exact hrl) d
  have hvne:∀ j,real.getD j false=true→j≠r:=λj hj e=>by rw[e,hrr] at hj;cases hj
  have hcne:∀ j,can.getD j false=true→j≠r:=λj hj e=>by rw[e,hcr] at hj;cases hj
  refine ih (r :: S) [] H (λj=>if j=r then v else vs j) (can.setIfInBounds r true) (ac.put p.dst v) hrest hH (by simp) (λ_=>rfl) ⟨?_,?_,?_,?_,?_⟩ hnext
  ·intro w0
   have h0:=h.real_ w0
   exact⟨h0.size,h0.closed,trivial,λ_ _ _=>trivial,h0.len,h0.defers,λt j hs hd hj=>by simp only[if_neg (hvne j hj)];exact h0.done t j hs hd hj,h0.rest⟩
  ·exact Sof.put hok h.can_ hp hcr hdr (by simp) (λj hj=>by simp[hj])
  ·intro j
   rw[hset,List.mem_cons]
   by_cases hij:r=j
   ·simp[hij]
   ·rw[if_neg hij,h.mem j]
    simp[Ne.symm hij]
  ·intro j hj
   rw[hset]
   split
   ·rfl
   ·exact h.sub j hj
  ·intro k q hq' hck hrk
   rw[hset] at hck
   by_cases hij:r=k
   ·subst hij
    rw[hp] at hq'
    cases hq'
    have hsame:=Sof.same hok hdst h.can_ hp hcr hdr
    have hy2:=hy.of_same (a':=putsOn ops vs (depsOf p) a) (execOp_congr p (noSel hplp) λx hx=>(eval_same x λt e=>(hsame t (looks_operand (by rw[←e];exact hx))).symm)) (wanted_same λt ht=>(hsame t ht).symm)
    rw[putsOn_congr (vs:=vs) _ _ λj hj=>if_neg (hcne j (hdr j hj))]
    simpa using hy2
   ·rw[if_neg hij] at hck
    have h1:=h.pend k q hq' hck hrk
    have hdk:∀ j∈depsOf q,can.getD j false=true:=λj hj=>(h.can_ w).closed k q hq' hck j hj
    rw[putsOn_congr (vs:=vs) _ _ λj hj=>if_neg (hcne j (hdk j hj)),if_neg (Ne.symm hij)]
    exact h1
 |hv r pend rest ih =>
  intro S E H vs can ac hplan hH hiE hcE h hline
  by_cases hci':can.getD i false=true
  ·obtain rfl:=hcE hci'
   exact shown _ S H vs can ac hplan hH h hline hci'
  have hci:can.getD i false=false:=by simpa using hci'
  simp only[treeOk,heavyOk,Bool.and_eq_true,decide_eq_true_eq,Bool.not_eq_true'] at hplan
  obtain⟨⟨⟨⟨⟨⟨hrl,hrS⟩,hrd⟩,hup⟩,hpend⟩,honly⟩,hrest⟩:=hplan
  have hir:i=r:=by
   have h1:=List.all_eq_true.1 honly i (List.mem_range.2 hlt)
   simp only[Bool.or_eq_true,Bool.not_eq_true',beq_iff_eq] at h1
   rcases h1 with ((h1|h1)|h1)|h1
   ·have:=(h.mem i).2 (by simpa using h1)
    rw[hci] at this;cases this
   ·exact h1
   ·exact absurd (by simpa using h1) hiE
   ·exfalso
    rw[←Bool.not_eq_true] at h1
    apply h1
    rw[List.all_eq_true]
    intro j hj
    have hj':j∈depsOf o:=by unfold depsAt at hj;rw[ho] at hj;exact hj
    simpa using (h.mem j).1 (h.sub j (hdeps j hj'))
  subst hir
  unfold TreeL at hline
  simp only[ho] at hline
  exact tree_heavy hok hdst ho hl hdeps K hK pend rest S H hH vs can ac h hci hline hup hpend hrest
 |br r pend rest other ih ih2 =>
  intro S E H vs can ac hplan hH hiE hcE h hline
  by_cases hci':can.getD i false=true
  ·obtain rfl:=hcE hci'
   exact shown _ S H vs can ac hplan hH h hline hci'
  have hci:can.getD i false=false:=by simpa using hci'
  simp only[treeOk,heavyOk,Bool.and_eq_true,decide_eq_true_eq,Bool.not_eq_true'] at hplan
  obtain⟨⟨⟨⟨⟨⟨hrl,hrS⟩,hrd⟩,hup⟩,hpend⟩,hrest⟩,hother⟩:=hplan
  by_cases hir:i=r
  ·subst hir
   unfold TreeL at hline
   simp only[ho] at hline
   exact tree_heavy hok hdst ho hl hdeps K hK pend rest S H hH vs can ac h hci hline.1 hup hpend hrest
  ·have h2:TreeL P ops Q other ac w:=by unfold TreeL at hline;exact hline.2
   exact ih2 S (r :: E) H vs can ac hother hH (by simp[hir];exact hiE) (λhh=>absurd hh hci') h h2
theorem tree_any (hok:relyOk ops=true) (hdst:∀ j t,dstOf ops j=some t→t < a.tmps.size) :
  ∀ (fuel:Nat) (plan:Tr) (S H:List Nat) (vs:Nat→Value) (real can:Array Bool) (ar ac:Act) (w:World),treeOk ops plan S [] H=true→(∀ k∈H,real.getD k false=true)→Stand P ops a vs real can S ar ac w→TreeL P ops Q plan ac w →
   ((List.range ops.size).filter λi=>!real.getD i false).length≤fuel→wpAny P .any ops Q fuel real ar w:=by
 have fin:∀ (plan:Tr) (S H:List Nat) (vs:Nat→Value) (real can:Array Bool) (ar ac:Act) (w:World),treeOk ops plan S [] H=true→(∀ k∈H,real.getD k false=true)→Stand P ops a vs real can S ar ac w→TreeL P ops Q plan ac w→Region.ready .any ops real=[]→Q .normal ar w:=by
  intro plan S H vs real can ar ac w hplan hH h hline hr
  have hall:=ready_nil hok (h.real_ w).size hr
  rw[h.frame hok hall]
  have hS:∀ i,i < ops.size→i∈S:=λi hi=>(h.mem i).1 (h.sub i (hall i hi))
  cases plan with
  |nil=>exact hline
  |rd r rest =>
   exfalso
   simp only[treeOk,Bool.and_eq_true,decide_eq_true_eq,Bool.not_eq_true'] at hplan
   have:=hplan.1.1.2
   simp[hS r hplan.1.1.1.2] at this
  |hv r pend rest =>
   exfalso
   simp only[treeOk,heavyOk,Bool.and_eq_true,decide_eq_true_eq,Bool.not_eq_true'] at hplan
   have:=hplan.1.1.1.1.1.2
   simp[hS r hplan.1.1.1.1.1.1] at this
  |br r pend rest other =>
   exfalso
   simp only[treeOk,heavyOk,Bool.and_eq_true,decide_eq_true_eq,Bool.not_eq_true'] at hplan
   have:=hplan.1.1.1.1.1.2
   simp[hS r hplan.1.1.1.1.1.1] at this
 intro fuel
 induction fuel with
 |zero =>
  intro plan S H vs real can ar ac w hplan hH h hline hc
  have hr:Region.ready .any ops real=[]:=by
   rw[List.eq_nil_iff_forall_not_mem]
   intro i hi
   obtain⟨o,ho,hl,_⟩:=ready_mem hi
   have hlt:i < ops.size:=(Array.getElem?_eq_some_iff.1 ho).1
   have:i∈(List.range ops.size).filter λi=>!real.getD i false:=by
    rw[List.mem_filter]
    refine⟨List.mem_range.2 hlt,?_⟩
    simp only[Array.getD_eq_getD_getElem?,Array.getElem?_eq_getElem (show i < real.size by rw[(h.real_ w).size];exact hlt),Option.getD_some] at hl⊢
    simp[hl]
   rw[List.eq_nil_of_length_eq_zero (Nat.le_zero.1 hc)] at this
   cases this
  exact⟨hr,fin plan S H vs real can ar ac w hplan hH h hline hr⟩
 |succ fuel ih =>
  intro plan S H vs real can ar ac w hplan hH h hline hc
  refine⟨fin plan S H vs real can ar ac w hplan hH h hline,λi hi=>?_⟩
  obtain⟨o,ho,hl,hdeps⟩:=ready_mem hi
  have hlt:i < ops.size:=(Array.getElem?_eq_some_iff.1 ho).1
  have hl':real.getD i false=false:=by
   simp only[Array.getD_eq_getD_getElem?,Array.getElem?_eq_getElem (show i < real.size by rw[(h.real_ w).size];exact hlt),Option.getD_some] at hl⊢
   exact hl
  refine tree_step hok hdst ho hl' hdeps _ ?_ plan S [] H vs can ac hplan hH (by simp) (λ_=>rfl) h hline
  intro vs' can' S' H' ar' ac' w' plan' hplan' hH' h' hline'
  refine ih plan' S' H' vs' _ can' ar' ac' w' hplan' hH' h' hline' ?_
  have hset:∀ j d,(real.setIfInBounds i true).getD j d=if i=j then true else real.getD j d:=λj d=>getD_set real i j (by rw[(h.real_ w).size];exact hlt) d
  have hlt2:((List.range ops.size).filter λj=>!(real.setIfInBounds i true).getD j false).length < ((List.range ops.size).filter λj=>!real.getD j false).length:=by
   have e:((List.range ops.size).filter λj=>!(real.setIfInBounds i true).getD j false)=(((List.range ops.size).filter λj=>!real.getD j false).filter λj=>!(decide (i=j))):=by
    rw[List.filter_filter]
    refine List.filter_congr λj _=>?_
    rw[hset]
    by_cases hij:i=j<;>simp[hij]
   rw[e]
   refine List.length_filter_lt_length_iff_exists.2 ⟨i,?_,by simp⟩
   rw[List.mem_filter]
   exact⟨List.mem_range.2 hlt,by simp[hl']⟩
  omega
theorem wp_region_tree {id:Nat} {l:List Oper} {w:World} (plan:Tr) {n:Nat} (hm:P.follows .mixedOrders=true) (hok:relyOk l.toArray=true) (hdst':dstOk l.toArray n=true) (hplan:treeOk l.toArray plan [] [] []=true)
  (hn:a.tmps.size=n) (h:TreeL P l.toArray Q plan a w.drew):(Code.region id l.toArray true).wp P Q a w:=by
 have hdst:∀ j t,dstOf l.toArray j=some t→t < a.tmps.size:=by rw[hn];exact dstOk_at hdst'
 refine wp_region_any hm ?_
 have h0:∀ i,(Array.replicate l.toArray.size false).getD i false=false:=by
  intro i
  simp only[Array.getD_eq_getD_getElem?,Array.getElem?_replicate]
  split<;>rfl
 have hs:Sof l.toArray a (λ_=>undef) (Array.replicate l.toArray.size false) a:=λw0 =>
  ⟨by simp,λi o _ h=>(by rw[h0] at h;cases h),trivial,λj _ h=>trivial,rfl,rfl,λt j _ _ h=>(by rw[h0] at h;cases h),λ_ _=>rfl⟩
 exact tree_any hok hdst _ plan [] [] (λ_=>undef) _ (Array.replicate l.toArray.size false) a a w.drew hplan (by simp)
  ⟨hs,hs,λj=>by rw[h0];simp,λj hj=>hj,λi o _ hc=>(by rw[h0] at hc;cases hc)⟩ h (Nat.le_trans (List.length_filter_le _ _) (by simp))
theorem rgt {id:Nat} {l:List Oper} {w:World} (plan:Tr) {n:Nat} (hn:a.tmps.size=n) (h:TreeL P l.toArray Q plan a w.drew) (hm:P.follows .mixedOrders=true:=by kernel_rfl) (hok:relyOk l.toArray=true:=by kernel_rfl) (hd:dstOk l.toArray n=true:=by kernel_rfl) (hp:treeOk l.toArray plan [] [] []=true:=by kernel_rfl):(Code.region id l.toArray true).wp P Q a w:=wp_region_tree plan hm hok hd hp hn h
end
end Go.Proofs.YtjkgligohegaeaaGreatDoor
namespace Go.Proofs.YtjkgligohegaeaaGreatDoor
open Go.RowKit
def PutPost (w:World) (p o base:Nat) (ok:Nat→Prop) (keys:List Int) (vals:List (List UInt8)) (kv vv:Value) (cs:Array Value) (t:TypeId) (e:Ending) (w':World):Prop :=
 e=.returned (.bool true)∧Only w w' (λb=>b=p∨some b=kv.ownBlock∨some b=vv.ownBlock)∧∃ kv' vv',TabB w' p o base ok keys vals kv' vv'∧Where w kv kv'∧Where w vv vv'∧(∀ b,kv'.ownBlock=some b→vv'.ownBlock≠some b) ∧
  w'.heap[p]?=some (.cells ((cs.setIfInBounds o kv').setIfInBounds (o+1) vv') t (0,0))
structure Mid1 (w1 w2:World) (base:Nat) (ok:Nat→Prop) (keys:List Int) (vals:List (List UInt8)) (kv vv kv':Value):Prop where
 krow:OwnI w2 base kv' keys
 vrow:KRow kBy w2 base 38 ok vals vv
 only:Only w1 w2 (λb=>some b=kv.ownBlock)
 wk:Where w1 kv kv'
 ne:∀ b,kv'.ownBlock=some b→vv.ownBlock≠some b
structure PutMid (w1 w3:World) (base:Nat) (ok:Nat→Prop) (keys:List Int) (vals:List (List UInt8)) (kv vv kv' vv':Value):Prop where
 krow:OwnI w3 base kv' keys
 vrow:KRow kBy w3 base 38 ok vals vv'
 only:Only w1 w3 (λb=>some b=kv.ownBlock∨some b=vv.ownBlock)
 wk:Where w1 kv kv'
 wv:Where w1 vv vv'
 ne:∀ b,kv'.ownBlock=some b→vv'.ownBlock≠some b
section
variable {w w1 w2 w3 wx:World} {p o base:Nat} {ok:Nat→Prop} {keys keys':List Int} {vals vals':List (List UInt8)} {kv vv kv' vv':Value}
theorem Where.mono {v v':Value} (h:Where w2 v v') (hs:w1.heap.size≤w2.heap.size):Where w1 v v':=h.imp id λk g hg=>Nat.le_trans hs (k g hg)
theorem put_mid1 (h1:TabB w1 p o base ok keys vals kv vv) (hb:Bel w1 wx) (ho:OwnI w2 base kv' keys') (hg:wx.grownBy w2 kv.ownBlock) (hw:Where wx kv kv') (hne:∀ b,kv.ownBlock=some b→vv.ownBlock≠some b) (hok:∀ b,ok b→kv.ownBlock≠some b):Mid1 w1 w2 base ok keys' vals kv vv kv':=by
 refine⟨ho,(h1.vrow.bel hb).stay hg ?_ (λb hb e=>hok b hb e.symm),Only.belLeft hb (Only.grown hg (λg e=>e.symm)),hw.mono hb.size,λb hb2 e=>?_⟩
 ·cases hv:vv.ownBlock with
  |none=>exact .inr rfl
  |some g=>exact .inl λe=>hne g e.symm hv
 ·rcases hw with hw|hw
  ·exact hne b (hw ▸ hb2) e
  ·have h2:=hw b hb2
   have h3:=(h1.vrow.lt_own b e).2
   have:=hb.size
   omega
theorem Mid1.bel (m:Mid1 w1 w2 base ok keys vals kv vv kv') (hb:Bel w2 w3):Mid1 w1 w3 base ok keys vals kv vv kv' :=
 ⟨own_below m.krow hb,m.vrow.bel hb,m.only.trans (Only.bel (F:=λ_=>False) hb) (λ_ _ h=>h.elim),m.wk,m.ne⟩
theorem put_mid2 (m:Mid1 w1 w2 base ok keys vals kv vv kv') (hr:KRow kBy w3 base 38 ok vals' vv') (hg:w2.grownBy w3 vv.ownBlock) (hw:Where w2 vv vv'):PutMid w1 w3 base ok keys vals' kv vv kv' vv':=by
 refine⟨World.ownsRow.kept m.krow hg ?_,hr,(m.only.weaken λ_ _ h=>.inl h).trans (Only.grown (F:=λb=>some b=vv.ownBlock) hg (λg e=>e.symm)) (λ_ _ h=>.inr h),m.wk,hw.mono m.only.size,λb hb e=>?_⟩
 ·cases hv:kv'.ownBlock with
  |none=>exact .inl rfl
  |some g=>exact .inr λe=>m.ne g hv e.symm
 ·rcases hw with hw|hw
  ·exact m.ne b hb (hw ▸ e)
  ·have h2:=hw b e
   have h3:=(m.krow.lt b hb).2
   omega
theorem put_fin {cs:Array Value} {t:TypeId} (m:PutMid w1 w3 base ok keys' vals' kv vv kv' vv') (hb:Bel w w1) (h:TabB w p o base ok keys vals kv vv) (hc:w.heap[p]?=some (.cells cs t (0,0))) (hp1:kv.ownBlock≠some p) (hp2:vv.ownBlock≠some p) (hop:¬ok p)
  (hlen:keys'.length=vals'.length) (hrise:keys'.Pairwise (· < ·)) (hfew:keys'.length≤1000):PutPost w p o base ok keys' vals' kv vv cs t (.returned (.bool true)) ((w3.setCell ⟨p,o,none⟩ kv').setCell ⟨p,o+1,none⟩ vv'):=by
 have hpl:=hlt hc
 have hc3:w3.heap[p]?=some (.cells cs t (0,0)):=m.only.heap (bHeap hb hc) (by rintro (e|e);exact hp1 e.symm;exact hp2 e.symm)
 have hfin:((w3.setCell ⟨p,o,none⟩ kv').setCell ⟨p,o+1,none⟩ vv').heap[p]?=some (.cells ((cs.setIfInBounds o kv').setIfInBounds (o+1) vv') t (0,0)):=by
  rw[Go.Joins.block_setCell (Go.Joins.block_setCell hc3 _) _]
 have hgr:w3.grownBy ((w3.setCell ⟨p,o,none⟩ kv').setCell ⟨p,o+1,none⟩ vv') (some p):=grownBy_trans (grownBy_cell _ _ _ _) (grownBy_cell _ _ _ _)
 have hsz:=hb.size
 have k1:kv'.ownBlock≠some p:=λe=>by
  rcases m.wk with h|h
  ·exact hp1 (h ▸ e)
  ·have:=h p e;omega
 have k2:vv'.ownBlock≠some p:=λe=>by
  rcases m.wv with h|h
  ·exact hp2 (h ▸ e)
  ·have:=h p e;omega
 have a0:cs[o]?=some kv:=by rw[←hcell hc o];exact h.c0
 have a1:cs[o+1]?=some vv:=by rw[←hcell hc (o+1)];exact h.c1
 have b0:=(Array.getElem?_eq_some_iff.1 a0).1
 have b1:=(Array.getElem?_eq_some_iff.1 a1).1
 refine⟨rfl,?_,kv',vv',⟨?_,?_,World.ownsRow.kept m.krow hgr (.inr k1),m.vrow.stay hgr (.inl k2) (λb hb e=>hop (by cases e;exact hb)),hlen,hrise,hfew⟩,m.wk.mono hsz,m.wv.mono hsz,m.ne,hfin⟩
 ·exact(Only.belLeft hb (m.only.weaken (G:=λb=>b=p∨some b=kv.ownBlock∨some b=vv.ownBlock) λ_ _ h=>.inr h)).trans (Only.grown (F:=λb=>b=p) hgr (λg e=>by cases e;rfl)) (λ_ _ h=>.inl h)
 ·rw[hcell hfin o]
  simp[Array.getElem?_setIfInBounds,b0]
 ·rw[hcell hfin (o+1)]
  simp[Array.getElem?_setIfInBounds,b1]
end
theorem put_last (p o base:Nat) (ok:Nat→Prop) (keys:List Int) (vals:List (List UInt8)) (kv vv:Value) (k:Int) (d:List UInt8) (y:Value) (cs:Array Value) (t:TypeId) (w:World) (h:TabB w p o base ok keys vals kv vv) (hk:∀ x∈keys,x < k) (hd:Kd.SK kB8 w ok d y)
  (hc:w.heap[p]?=some (.cells cs t (0,0))) (hp1:kv.ownBlock≠some p) (hp2:vv.ownBlock≠some p) (hne:∀ b,kv.ownBlock=some b→vv.ownBlock≠some b) (hbase:base≤w.heap.size) (hfew:keys.length < 1000) (hop:¬ok p) (hok:∀ b,ok b→kv.ownBlock≠some b) :
  Calls Tryz.prog 112 #[.pointer (some ⟨p,o,none⟩),.int .i64 k,y] w (PutPost w p o base ok (keys++[k]) (vals++[d]) kv vv cs t):=by
 obtain⟨A,c,rfl,hr,-⟩:=own_row h.krow
 obtain⟨Av,cv,rfl,-⟩:=h.vrow.form
 obtain⟨Ay,cy,rfl,-⟩:=sk_bytes hd
 have HB:=Hm (bsearch_any keys A c k w hr h.rise (by have:=h.few;omega))
 have hnk:keys.contains k=false:=by
  rw[←Bool.not_eq_true,List.contains_iff_mem]
  exact λhm=>by have:=hk k hm;omega
 rw[countP_all keys k hk,hnk] at HB
 have H:=Hm h
 have HD:=Hm hd
 have HC:=Hm hc
 have HP:=Hm (And.intro hp1 (And.intro hp2 (And.intro hne (And.intro hop hok))))
 have HE:=Hm (And.intro (show (keys++[k]).length=(vals++[d]).length by simp[h.len]) (And.intro (show (keys++[k]).Pairwise (· < ·) from List.pairwise_append.2 ⟨h.rise,List.pairwise_singleton _ _,λa ha b hb=>by rw[List.mem_singleton] at hb;subst hb;exact hk a ha⟩) (And.intro (show (keys++[k]).length≤1000 by simp;omega) h.len)))
 have a0:cs[o]?=some (.slice A keys.length c):=by rw[←hcell hc o];exact h.c0
 have a1:cs[o+1]?=some (.slice Av vals.length cv):=by rw[←hcell hc (o+1)];exact h.c1
 have HCS:=Hm (And.intro a0 a1)
 have c0:=h.c0
 have hp:=h.lt
 have HF:=Hm (And.intro hfew hbase)
 clear h hd hk hc hp1 hp2 hne hop hok hr hnk a0 a1 hfew hbase
 go_enter Tryz.func112,Tryz.ntmps112
 go_wp2_with fail
 refine HB.o.mono ?_
 rintro e w1 ⟨rfl,hb1⟩
 have HB1:=Hm hb1
 have h1:=H.o.bel hb1
 have H1:=Hm h1
 replace c0:=h1.c0
 have c1:=h1.c1
 replace hp:=h1.lt
 have hc1:=bHeap hb1 HC.o
 have HC1:=Hm hc1
 have HI:=Hm (λ(q:Nat) (wx:World) (hb:Bel w1 wx) (hr:Row wx (some ⟨q,0,none⟩) [.int .i64 k])=>ins_end_i keys k base _ q wx (own_below h1.krow hb) (by have:=HF.o.2;have:=hb1.size;have:=hb.size;omega) hr (by have:=HF.o.1;omega))
 have HJ:=Hm (λ(q:Nat) (w2 wx:World) (kv':Value) (m:Mid1 w1 w2 base ok (keys++[k]) vals (.slice A keys.length c) (.slice Av vals.length cv) kv') (hb:Bel w2 wx) (hr:Row wx (some ⟨q,0,none⟩) [.slice Ay d.length cy]) =>
  show Calls Tryz.prog 144 #[.slice Av vals.length cv,.int .i64 keys.length,.slice (some ⟨q,0,none⟩) 1 1] wx λe w'=>∃ v',e=.returned v'∧KRow kBy w' base 38 ok (vals++[d]) v'∧wx.grownBy w' (Value.slice Av vals.length cv).ownBlock∧Where wx (.slice Av vals.length cv) v' by
   rw[HE.o.2.2.2]
   exact ins_end_b vals d base ok (.slice Av vals.length cv) (.slice Ay d.length cy) q wx (m.bel hb).vrow (by have:=HF.o.2;have:=hb1.size;have:=m.only.size;have:=hb.size;omega) hr ((((HD.o.stay (Stays.below hb1)).stay (m.only.stays λb hb e=>HP.o.2.2.2.2 b hb e.symm))).stay (Stays.below hb)) (by have:=HF.o.1;have:=HE.o.2.2.2;omega))
 clear hb1 h1 hc1
 go_wp2_with fail
 refine rgt (.rd 0 (.rd 1 (.rd 2 (.rd 6 (.rd 7 (.rd 10 (.rd 14 (.rd 15 (.rd 3 (.rd 11 (.rd 4 (.rd 12 (.rd 5 (.rd 13 (.br 8 [0,1,2,6,10,14,15,3,11,4,12,5,13] (.br 9 [0,1,10,14,15,11,12,13] (.hv 16 [0,1,10,14,11,12,13] (.hv 17 [0,1] (.rd 18 (.rd 19 (.hv 20 [1] (.rd 21 (.rd 22 (.hv 23 [] (.nil))))))))) (.hv 16 [0,1,2,6,10,14,3,11,4,12,5,13] (.hv 9 [0,1,10,14,11,12,13] (.hv 17 [0,1] (.rd 18 (.rd 19 (.hv 20 [1] (.rd 21 (.rd 22 (.hv 23 [] (.nil))))))))))) (.hv 16 [0,1,2,6,7,10,14,3,11,4,12,5,13] (.hv 8 [0,1,2,6,10,14,3,11,4,12,5,13] (.hv 9 [0,1,10,14,11,12,13] (.hv 17 [0,1] (.rd 18 (.rd 19 (.hv 20 [1] (.rd 21 (.rd 22 (.hv 23 [] (.nil)))))))))))))))))))))))))) (n:=48) rfl ?_
 iterate 14 (refine tree_rd rfl (λK hK=>?_);go_simp;refine hK _ ?_;clear hK K)
 refine tree_br rfl ?_ ?_
 ·go_wp2_with fail
  refine⟨?_,?_⟩
  ·simp only[Again,slotOf]
   go_simp
  refine tree_br rfl ?_ ?_
  ·go_wp2_with fail
   have hx:Bel w1 (w1.drew.alloc (.cells #[.int .i64 k] 3)):=(bA (bD (bR w1)) _)
   have hi:=HI.o w1.heap.size (w1.drew.alloc (.cells #[.int .i64 k] 3)) hx (row_new w1.drew [.int .i64 k] 3 (0,0))
   refine hi.mono ?_
   rintro e w2 ⟨kv',rfl,hok2,hg2,hwk2⟩
   have M1:=Hm (put_mid1 H1.o hx hok2 hg2 hwk2 HP.o.2.2.1 HP.o.2.2.2.2)
   have HCm:=Hm (M1.o.only.heap HC1.o (λe=>HP.o.1 e.symm))
   obtain⟨Ak,ck,rfl,-⟩:=own_row hok2
   replace c0:=(hcell HCm.o o).trans HCS.o.1
   replace c1:=(hcell HCm.o (o+1)).trans HCS.o.2
   replace hp:=hlt HCm.o
   clear hok2 hg2 hwk2 hx hi
   go_wp2_with fail
   refine⟨?_,?_⟩
   ·simp only[Again,slotOf]
    go_simp
   refine tree_hv rfl ?_
   go_wp2_with fail
   refine⟨?_,?_⟩
   ·simp only[Again,slotOf]
    go_simp
   refine tree_hv rfl ?_
   go_wp2_with fail
   have hj:=HJ.o w2.heap.size w2 (w2.alloc (.cells #[.slice Ay d.length cy] 38)) _ M1.o (bA (bR w2) _) (row_new w2 [.slice Ay d.length cy] 38 (0,0))
   have M1b:=Hm (M1.o.bel (w3:=(w2.alloc (.cells #[.slice Ay d.length cy] 38))) (bA (bR w2) _))
   refine hj.mono ?_
   rintro e w3 ⟨vv',rfl,hk3,hg3,hw3⟩
   have M3:=Hm (put_mid2 M1b.o hk3 hg3 hw3)
   obtain⟨Av',cv',rfl,-⟩:=hk3.form
   have HC3:=Hm (M3.o.only.heap HC1.o (by rintro (e|e);exact HP.o.1 e.symm;exact HP.o.2.1 e.symm))
   have HFin:=Hm (put_fin M3.o HB1.o H.o HC.o HP.o.1 HP.o.2.1 HP.o.2.2.2.1 HE.o.1 HE.o.2.1 HE.o.2.2.1)
   replace c0:=(hcell HC3.o o).trans HCS.o.1
   replace c1:=(hcell HC3.o (o+1)).trans HCS.o.2
   replace f0:=hfree HC3.o o
   replace f1:=hfree HC3.o (o+1)
   replace hp:=hlt HC3.o
   clear hk3 hg3 hw3 hj
   go_wp2_with fail
   refine⟨?_,?_⟩
   ·simp only[Again,slotOf]
    go_simp
   iterate 2 (refine tree_rd rfl (λK hK=>?_);go_simp;refine hK _ ?_;clear hK K)
   refine tree_hv rfl ?_
   go_wp2_with fail
   refine⟨?_,?_⟩
   ·simp only[Again,slotOf]
    go_simp
   iterate 2 (refine tree_rd rfl (λK hK=>?_);go_simp;refine hK _ ?_;clear hK K)
   refine tree_hv rfl ?_
   go_wp2_with fail
   refine⟨?_,?_⟩
   ·exact trivial
   unfold TreeL
   go_wp2
   go_ret
   have hh:=HFin.o
   simp only[List.length_append,List.length_cons,List.length_nil,Nat.zero_add] at hh
   exact hh
  ·refine tree_hv rfl ?_
   go_wp2_with fail
   refine⟨?_,?_⟩
   ·simp only[Again,slotOf]
    go_simp
   refine tree_hv rfl ?_
   go_wp2_with fail
   have hx:Bel w1 ((w1.drew.alloc (.cells #[.int .i64 k] 3)).alloc (.cells #[.slice Ay d.length cy] 38)):=(bA (bA (bD (bR w1)) _) _)
   have hi:=HI.o w1.heap.size ((w1.drew.alloc (.cells #[.int .i64 k] 3)).alloc (.cells #[.slice Ay d.length cy] 38)) hx ((row_new w1.drew [.int .i64 k] 3 (0,0)).below (bA (bR _) _))
   refine hi.mono ?_
   rintro e w2 ⟨kv',rfl,hok2,hg2,hwk2⟩
   have M1:=Hm (put_mid1 H1.o hx hok2 hg2 hwk2 HP.o.2.2.1 HP.o.2.2.2.2)
   have hyr:Row ((w1.drew.alloc (.cells #[.int .i64 k] 3)).alloc (.cells #[.slice Ay d.length cy] 38)) (some ⟨(w1.heap.size+1),0,none⟩) [.slice Ay d.length cy]:=(by simpa using row_new (w1.drew.alloc (.cells #[.int .i64 k] 3)) [.slice Ay d.length cy] 38 (0,0))
   have HY:=Hm (Row.grown hyr hg2 (λa ha e=>by cases ha;have h2:=(H1.o.krow.lt _ e.symm).2;have h3:w1.drew.heap.size=w1.heap.size:=rfl;dsimp only at h2;omega))
   clear hyr
   have HCm:=Hm (M1.o.only.heap HC1.o (λe=>HP.o.1 e.symm))
   obtain⟨Ak,ck,rfl,-⟩:=own_row hok2
   replace c0:=(hcell HCm.o o).trans HCS.o.1
   replace c1:=(hcell HCm.o (o+1)).trans HCS.o.2
   replace hp:=hlt HCm.o
   clear hok2 hg2 hwk2 hx hi
   go_wp2_with fail
   refine⟨?_,?_⟩
   ·simp only[Again,slotOf]
    go_simp
   refine tree_hv rfl ?_
   go_wp2_with fail
   have hj:=HJ.o (w1.heap.size+1) w2 w2 _ M1.o (bR w2) HY.o
   have M1b:=Hm (M1.o.bel (w3:=w2) (bR w2))
   refine hj.mono ?_
   rintro e w3 ⟨vv',rfl,hk3,hg3,hw3⟩
   have M3:=Hm (put_mid2 M1b.o hk3 hg3 hw3)
   obtain⟨Av',cv',rfl,-⟩:=hk3.form
   have HC3:=Hm (M3.o.only.heap HC1.o (by rintro (e|e);exact HP.o.1 e.symm;exact HP.o.2.1 e.symm))
   have HFin:=Hm (put_fin M3.o HB1.o H.o HC.o HP.o.1 HP.o.2.1 HP.o.2.2.2.1 HE.o.1 HE.o.2.1 HE.o.2.2.1)
   replace c0:=(hcell HC3.o o).trans HCS.o.1
   replace c1:=(hcell HC3.o (o+1)).trans HCS.o.2
   replace f0:=hfree HC3.o o
   replace f1:=hfree HC3.o (o+1)
   replace hp:=hlt HC3.o
   clear hk3 hg3 hw3 hj
   go_wp2_with fail
   refine⟨?_,?_⟩
   ·simp only[Again,slotOf]
    go_simp
   iterate 2 (refine tree_rd rfl (λK hK=>?_);go_simp;refine hK _ ?_;clear hK K)
   refine tree_hv rfl ?_
   go_wp2_with fail
   refine⟨?_,?_⟩
   ·simp only[Again,slotOf]
    go_simp
   iterate 2 (refine tree_rd rfl (λK hK=>?_);go_simp;refine hK _ ?_;clear hK K)
   refine tree_hv rfl ?_
   go_wp2_with fail
   refine⟨?_,?_⟩
   ·exact trivial
   unfold TreeL
   go_wp2
   go_ret
   have hh:=HFin.o
   simp only[List.length_append,List.length_cons,List.length_nil,Nat.zero_add] at hh
   exact hh
 ·refine tree_hv rfl ?_
  go_wp2_with fail
  refine⟨?_,?_⟩
  ·simp only[Again,slotOf]
   go_simp
  refine tree_hv rfl ?_
  go_wp2_with fail
  refine⟨?_,?_⟩
  ·simp only[Again,slotOf]
   go_simp
  refine tree_hv rfl ?_
  go_wp2_with fail
  have hx:Bel w1 ((w1.drew.alloc (.cells #[.slice Ay d.length cy] 38)).alloc (.cells #[.int .i64 k] 3)):=(bA (bA (bD (bR w1)) _) _)
  have hi:=HI.o (w1.heap.size+1) ((w1.drew.alloc (.cells #[.slice Ay d.length cy] 38)).alloc (.cells #[.int .i64 k] 3)) hx (by simpa using row_new (w1.drew.alloc (.cells #[.slice Ay d.length cy] 38)) [.int .i64 k] 3 (0,0))
  refine hi.mono ?_
  rintro e w2 ⟨kv',rfl,hok2,hg2,hwk2⟩
  have M1:=Hm (put_mid1 H1.o hx hok2 hg2 hwk2 HP.o.2.2.1 HP.o.2.2.2.2)
  have hyr:Row ((w1.drew.alloc (.cells #[.slice Ay d.length cy] 38)).alloc (.cells #[.int .i64 k] 3)) (some ⟨w1.heap.size,0,none⟩) [.slice Ay d.length cy]:=((row_new w1.drew [.slice Ay d.length cy] 38 (0,0)).below (bA (bR _) _))
  have HY:=Hm (Row.grown hyr hg2 (λa ha e=>by cases ha;have h2:=(H1.o.krow.lt _ e.symm).2;have h3:w1.drew.heap.size=w1.heap.size:=rfl;dsimp only at h2;omega))
  clear hyr
  have HCm:=Hm (M1.o.only.heap HC1.o (λe=>HP.o.1 e.symm))
  obtain⟨Ak,ck,rfl,-⟩:=own_row hok2
  replace c0:=(hcell HCm.o o).trans HCS.o.1
  replace c1:=(hcell HCm.o (o+1)).trans HCS.o.2
  replace hp:=hlt HCm.o
  clear hok2 hg2 hwk2 hx hi
  go_wp2_with fail
  refine⟨?_,?_⟩
  ·simp only[Again,slotOf]
   go_simp
  refine tree_hv rfl ?_
  go_wp2_with fail
  have hj:=HJ.o w1.heap.size w2 w2 _ M1.o (bR w2) HY.o
  have M1b:=Hm (M1.o.bel (w3:=w2) (bR w2))
  refine hj.mono ?_
  rintro e w3 ⟨vv',rfl,hk3,hg3,hw3⟩
  have M3:=Hm (put_mid2 M1b.o hk3 hg3 hw3)
  obtain⟨Av',cv',rfl,-⟩:=hk3.form
  have HC3:=Hm (M3.o.only.heap HC1.o (by rintro (e|e);exact HP.o.1 e.symm;exact HP.o.2.1 e.symm))
  have HFin:=Hm (put_fin M3.o HB1.o H.o HC.o HP.o.1 HP.o.2.1 HP.o.2.2.2.1 HE.o.1 HE.o.2.1 HE.o.2.2.1)
  replace c0:=(hcell HC3.o o).trans HCS.o.1
  replace c1:=(hcell HC3.o (o+1)).trans HCS.o.2
  replace f0:=hfree HC3.o o
  replace f1:=hfree HC3.o (o+1)
  replace hp:=hlt HC3.o
  clear hk3 hg3 hw3 hj
  go_wp2_with fail
  refine⟨?_,?_⟩
  ·simp only[Again,slotOf]
   go_simp
  iterate 2 (refine tree_rd rfl (λK hK=>?_);go_simp;refine hK _ ?_;clear hK K)
  refine tree_hv rfl ?_
  go_wp2_with fail
  refine⟨?_,?_⟩
  ·simp only[Again,slotOf]
   go_simp
  iterate 2 (refine tree_rd rfl (λK hK=>?_);go_simp;refine hK _ ?_;clear hK K)
  refine tree_hv rfl ?_
  go_wp2_with fail
  refine⟨?_,?_⟩
  ·exact trivial
  unfold TreeL
  go_wp2
  go_ret
  have hh:=HFin.o
  simp only[List.length_append,List.length_cons,List.length_nil,Nat.zero_add] at hh
  exact hh
abbrev kFr:Kd (UInt8 × List UInt8):=Kd.pair kB8 kBy
theorem iFr:EI 82 2 32 (.agg #[.int .u8 0,.slice none 0 0]):=EI.mk (by kernel_rfl) rfl (by omega) (by omega)
def laid (rs:List (UInt8 × List UInt8)):List UInt8:=(rs.map λr=>layF r.1 r.2).flatten
theorem laid_cons (r:UInt8 × List UInt8) (rs:List (UInt8 × List UInt8)):laid (r :: rs)=layF r.1 r.2++laid rs:=by simp[laid]
theorem laid_append (rs qs:List (UInt8 × List UInt8)):laid (rs++qs)=laid rs++laid qs:=by simp[laid]
theorem layF_pos (k:UInt8) (b:List UInt8):6≤(layF k b).length:=by simp[layF,four_len];omega
theorem laid_len (rs:List (UInt8 × List UInt8)):6*rs.length≤(laid rs).length:=by
 induction rs with
 |nil=>simp[laid]
 |cons r rs ih =>
  rw[laid_cons,List.length_append,List.length_cons]
  have:=layF_pos r.1 r.2
  omega
theorem run_behind (A:Option Addr) (n c k:Nat) (hk:k≤n) (hn:n≤c) (hA:∀ a,A=some a→0 < n→a.spot=none):∃ A',(∀ w,(Instr.sliceAt 38 (.slice A n c) (some (.int .i64 k)) none none).run Tryz.prog w=.ok (.slice A' (n-k) (c-k)) w) ∧
  ∀ (w:World) (l:List UInt8),l.length=n→Bytes w A l→Bytes w A' (l.drop k):=by
 have hu:Tryz.prog.underlying 38=some (.slice 5):=by kernel_rfl
 have hs:∀ w,(sizeOf 5).run Tryz.prog w=.ok 1 w:=Tryz.sizeOf5
 by_cases h1:k < n
 ·cases A with
  |none =>
   refine⟨none,λw=>?_,λw l hl h=>?_⟩
   ·simp[Instr.sliceAt,Instr.slice,Instr.sliceBounds,Instr.sliceBound,go_sem,run_underlying hu,hs,hk,hn]
   ·obtain⟨b,off,e,_⟩:=h 0 (by simp;omega);cases e
  |some a =>
   obtain⟨b,o,sp⟩:=a
   have:sp=none:=hA _ rfl (by omega)
   subst this
   exact⟨_,run_from b o n c k h1 hn,λw l hl h=>by
    have:=h.drop k
    unfold Addr.add at this
    simp only[beq_iff_eq] at this
    split at this
    ·rename_i e;subst e;simpa using this
    ·exact this⟩
 ·obtain rfl:k=n:=by omega
  have hx:∃ A',∀ w,(Instr.sliceAt 38 (.slice A k c) (some (.int .i64 k)) none none).run Tryz.prog w=.ok (.slice A' (k-k) (c-k)) w:=by
   cases A with
   |none=>exact⟨_,λw=>by simp[Instr.sliceAt,Instr.slice,Instr.sliceBounds,Instr.sliceBound,go_sem,run_underlying hu,hs,hn];rfl⟩
   |some a =>
    by_cases h0:c=k
    ·exact⟨_,λw=>by simp[Instr.sliceAt,Instr.slice,Instr.sliceBounds,Instr.sliceBound,go_sem,run_underlying hu,hs,hn,h0];rfl⟩
    ·exact⟨_,λw=>by simp[Instr.sliceAt,Instr.slice,Instr.sliceBounds,Instr.sliceBound,go_sem,run_underlying hu,hs,hn,h0];rfl⟩
  obtain⟨A',hV⟩:=hx
  exact⟨A',hV,λw l hl h=>by rw[List.drop_of_length_le (by omega)];exact Bytes.nil _ _⟩
theorem bytes_spot {w:World} {A:Option Addr} {l:List UInt8} (h:Bytes w A l):∀ a,A=some a→0 < l.length→a.spot=none:=λa ha h0=>by
 obtain⟨b,off,e,_⟩:=h 0 (by simpa using h0)
 rw[ha] at e
 cases e
 rfl
theorem own_cap {w:World} {base e size n n' c:Nat} {A:Option Addr} {xs:List Value} (h:w.ownsRow base e size (.slice A n c) n' xs):c≤maxLen∧∀ a,A=some a→a.block < w.heap.size:=by
 rcases h.2 with ⟨e,_⟩|⟨g,cap,cur,e,hg,hh,hnc,hcm,_⟩
 ·cases e
  exact⟨Nat.zero_le _,λa ha=>by cases ha⟩
 ·cases e
  exact⟨hcm,λa ha=>by cases ha;exact hlt hh⟩
theorem laid_drop (done rs:List (UInt8 × List UInt8)) (tl:List UInt8):(laid (done++rs)++tl).drop (laid done).length=laid rs++tl:=by
 rw[laid_append,List.append_assoc,List.drop_left']
 rfl
theorem all_any (rs:List (UInt8 × List UInt8)) (hrs:∀ r∈rs,r.2.length≤65536) (tl:List UInt8) (htl:(takeF tl).code≠0) (A:Option Addr) (ca:Nat) (w:World) (hA:Bytes w A (laid rs++tl)) (hl:(laid rs++tl).length≤5000000) (hca:(laid rs++tl).length≤ca) :
  Calls Tryz.prog 113 #[.slice A (laid rs++tl).length ca] w λe w'=>Bel w w'∧∃ v ok,e=.returned (.tuple #[v,.int .i64 (laid rs).length])∧KRow kFr w' w.heap.size 82 ok rs v∧∀ b,ok b→w.heap.size≤b:=by
 have HA:=Hm hA
 have HR:=Hm hrs
 have HT:=Hm htl
 obtain⟨n,hn⟩:∃ n,n=(laid rs++tl).length:=⟨_,rfl⟩
 have HN:=Hm hn
 rw[←hn] at hl hca⊢
 have HSp:=Hm (bytes_spot hA)
 clear hA hrs htl hn
 go_enter Tryz.func113,Tryz.ntmps113
 go_wp2_with fail
 go_loopw [4,5] (λv i wr=>∃ done rest:List (UInt8 × List UInt8),rs=done++rest∧i=.int .i64 (laid done).length∧Bel w wr∧∃ ok,KRow kFr wr w.heap.size 82 ok done v∧∀ b,ok b→w.heap.size≤b) (λ_ i _=>n-(intOf i).toNat)
 case atStart=>exact⟨[],rs,rfl,rfl,bR _,λ_=>False,KRow.none _ _ _ _ (λ_ h=>h.elim),λ_ h=>h.elim⟩
 case round =>
  obtain⟨done,rest,hrs,rfl,hb,ok,hk,hok⟩:=hrel
  obtain⟨Av,cv,rfl,-⟩:=hk.form
  have HK:=Hm hk
  have HB:=Hm hb
  have HD:=Hm hrs
  have hle:(laid done).length≤n:=by rw[HN.o,hrs,laid_append];simp only[List.length_append];omega
  obtain⟨A',hsl,hby⟩:=run_behind A n ca (laid done).length hle hca (λa ha h0=>HSp.o a ha (by rw[←HN.o];exact h0))
  have hbr:=hby wr _ HN.o.symm (HA.o.below hb)
  rw[hrs,laid_drop] at hbr
  have hnl:n-(laid done).length=(laid rest++tl).length:=by rw[HN.o,hrs,laid_append];simp only[List.length_append];omega
  have HTk:=Hm (take_any A' (ca-(laid done).length) (laid rest++tl) wr hbr (by omega) (by omega))
  rw[←hnl] at HTk
  clear hby hbr hk hb hrs hnl
  obtain⟨m,hm⟩:∃ m,m=(laid done).length:=⟨_,rfl⟩
  rw[←hm] at hle hsl HTk⊢
  have HM:=Hm hm
  clear hm
  go_wp2_with fail
  refine HTk.o.mono ?_
  unfold TakePost
  cases rest with
  |nil =>
   rw[show laid ([]:List (UInt8 × List UInt8))++tl=tl from rfl]
   rintro e w2 ⟨hb2,v2,rfl,ho2⟩
   have HB2:=Hm (bT HB.o hb2)
   have HK2:=Hm (HK.o.bel hb2)
   have hcode:((takeF tl).code:Int)≠0:=by have:=HT.o;omega
   obtain⟨A2,c2,rfl,-⟩:=own_row ho2
   have hc':(((takeF tl).code:Int) != 0)=true:=by simpa using hcode
   clear hb2 ho2 hcode
   generalize ((takeF tl).code:Int)=code at *
   go_wp2
   go_ret2
   have e1:rs=done:=by rw[HD.o,List.append_nil]
   rw[e1]
   exact⟨HB2.o,_,ok,by rw[←HM.o];rfl,HK2.o,hok⟩
  |cons r rest =>
   rw[laid_cons,List.append_assoc,takeF_lay r.1 r.2 _ (HR.o r (by rw[HD.o];simp))]
   rintro e w2 ⟨hb2,v2,rfl,ho2⟩
   obtain⟨A2,c2,rfl,hrow2,-,hfr2,hcap2,hmx2⟩:=own_row ho2
   have HB2:=Hm (bT HB.o hb2)
   have hcp:=own_cap ho2
   have hsz2:=hb2.size
   have HF:=Hm (show kFr.K (w2.alloc (.cells #[byteV r.1,.slice A2 r.2.length c2] 82)) (λb=>ok b∨wr.heap.size≤b∧b < w2.heap.size) r [byteV r.1,.slice A2 r.2.length c2] from
    ⟨[byteV r.1],[.slice A2 r.2.length c2],rfl,rfl,_,rfl,bytes_sk (Bytes.below hrow2 (bA (bR _) _)) hcap2 hcp.1 (λa ha=>.inr ⟨hfr2 a ha,hcp.2 a ha⟩)⟩)
   have HK2:=Hm ((HK.o.bel (bT hb2 (bA (bR w2) (.cells #[byteV r.1,.slice A2 r.2.length c2] 82)))).more (ok':=λb=>ok b∨wr.heap.size≤b∧b < w2.heap.size) (λb h=>.inl h) (by
    rintro b (h|h) e
    ·exact HK.o.apart b h e
    ·have:=(HK.o.lt_own b e.symm).2;omega) (by
    rintro b (h|h)
    ·have:=HK.o.lt b h;simp;omega
    ·simp;omega))
   have hsB:=HB.o.size
   have HBw:=Hm (bT HB2.o (bA (bR w2) (.cells #[byteV r.1,.slice A2 r.2.length c2] 82)))
   have hlz:(layF r.1 r.2).length≤n-m:=by
    have:=HN.o
    rw[HD.o,laid_append,laid_cons] at this
    simp only[List.length_append] at this
    have:=HM.o
    omega
   have hlp:=layF_pos r.1 r.2
   have hdl:done.length≤n:=by have:=laid_len done;have:=HM.o;omega
   clear hb2 ho2 hrow2 hfr2 hcap2 hmx2 hcp hsl
   obtain⟨z,hzd⟩:∃ z,z=(layF r.1 r.2).length:=⟨_,rfl⟩
   have HZ:=Hm hzd
   rw[←hzd] at hlz hlp⊢
   clear hzd
   rw[show byteV r.1=Value.int .u8 (r.1.toNat:Int) from rfl] at HF HK2 HBw⊢
   go_wp2_with (first
    |(at_builtin;refine appK iFr Tryz.underlying78 rfl (.tmp 23) (.tmp 27) rfl (v:=.slice Av done.length cv) rfl HK2.o (by have:=HBw.o.size;omega) (q:=w2.heap.size) rfl (row_new _ _ _ _) HF.o (by omega) ?_;intro v3 w3 hk3 hg3 hw3)
    |fail)
   have hg0:Bel w w3:=bG HBw.o hg3 (λk hk=>(HK2.o.lt_own k hk).1)
   have hz5:=HZ.o.symm
   have H3:=Hm (And.intro hk3 hg0)
   obtain⟨A3,c3,rfl,-⟩:=hk3.form
   clear hk3 hg3 hw3 hg0
   have hwz:IntKind.i64.wrap ((m:Int)+z)=(m:Int)+z:=by simp[IntKind.wrap,IntKind.bits,IntKind.signed];omega
   go_wp2
   go_roundw
   case rel =>
    refine⟨done++[r],rest,by rw[HD.o];simp,?_,H3.o.2,_,H3.o.1,?_⟩
    ·rw[laid_append,List.length_append,←HM.o,laid_cons,List.length_append,hz5]
     simp[laid]
    ·rintro b (h|h)
     ·exact hok b h
     ·omega
   case measure=>simp[intOf];omega
structure MkIn (w:World) (p:Nat) (l:List UInt8) (A:Option Addr) (ca:Nat):Prop where
 head:w.heap[p]?=some (.cells #[.slice A l.length ca] 198 (0,0))
 bytes:Bytes w A l
 below_:0 < l.length→∀ a,A=some a→a.block+4≤p
 cap:l.length≤ca
 small:l.length≤200
def MkAt (w:World) (p:Nat) (l:List UInt8):Prop:=∃ A ca,MkIn w p l A ca
structure MkStep (w w':World) (p:Nat) (l:List UInt8):Prop where
 grown:w.grownBy w' (some p)
 rd:MkAt w' p l
def nx (l:List UInt8) (n:Nat):Nat:=match l with
 |[]=>0
 |b :: _=>b.toNat % n
section
variable {w w' X X':World} {p:Nat} {l:List UInt8} {A:Option Addr} {ca:Nat}
theorem MkAt.lt (h:MkAt w p l):p < w.heap.size:=by obtain⟨A,ca,h⟩:=h;exact hlt h.head
theorem MkIn.only {F:Nat→Prop} (h:MkIn w p l A ca) (hs:Only w w' F) (hF:¬F p∧∀ b,b+4≤p→¬F b):MkIn w' p l A ca:=by
 refine⟨hs.heap h.head hF.1,?_,h.below_,h.cap,h.small⟩
 by_cases h0:0 < l.length
 ·exact row_only h.bytes hs (λa ha=>hF.2 _ (h.below_ h0 a ha))
 ·obtain rfl:l=[]:=List.eq_nil_of_length_eq_zero (by omega)
  exact Bytes.nil _ _
theorem MkAt.below (h:MkAt w p l) (hb:Bel w w'):MkAt w' p l:=by
 obtain⟨A,ca,h⟩:=h
 exact⟨A,ca,h.only (F:=λ_=>False) (Only.bel hb) ⟨λh=>h,λ_ _ h=>h⟩⟩
theorem MkAt.growN (h:MkAt w p l) {row:Option Nat} (hb:∀ k,row=some k→p < k) (hg:w.grownBy w' row):MkAt w' p l:=by
 obtain⟨A,ca,h⟩:=h
 exact⟨A,ca,h.only (F:=λb=>row=some b) (Only.grown hg (λg e=>e)) ⟨λe=>by have:=hb p e;omega,λb hb' e=>by have:=hb b e;omega⟩⟩
theorem MkAt.near (h:MkAt w p l) {f:Nat} (h1:f < p) (h2:p < f+4) (hs:Only w w' (λb=>b=f)):MkAt w' p l:=by
 obtain⟨A,ca,h⟩:=h
 exact⟨A,ca,h.only hs ⟨by omega,λb hb e=>by omega⟩⟩
theorem MkAt.set (h:MkAt w p l) {b:Nat} (hb:p < b) (k:Nat) (v:Value):MkAt (w.setCell ⟨b,k,none⟩ v) p l:=h.growN (λk hk=>by cases hk;exact hb) (grownBy_cell w b k v)
end
theorem mk_tail {w:World} {p bl off off' ca:Nat} {b:UInt8} {l:List UInt8} (h:MkIn w p (b :: l) (some ⟨bl,off,none⟩) ca) (ho:off'=off+1∨l=[]):MkStep w (w.setCell ⟨p,0,none⟩ (.slice (some ⟨bl,off',none⟩) l.length (ca-1))) p l:=by
 have hg:=grownBy_cell w p 0 (.slice (some ⟨bl,off',none⟩) l.length (ca-1))
 have hbl:bl+4≤p:=h.below_ (by simp) _ rfl
 refine⟨hg,some ⟨bl,off',none⟩,ca-1,by rw[Go.Joins.block_setCell h.head _];rfl,?_,λ_ a ha=>by cases ha;exact hbl,by have:=h.cap;simp at this;omega,by have:=h.small;simp at this;omega⟩
 rcases ho with rfl|rfl
 ·intro j hj
  obtain⟨b',o',e,hc⟩:=h.bytes (j+1) (by simpa using hj)
  simp only[Option.some.injEq,Addr.mk.injEq,and_true] at e
  obtain⟨rfl,rfl⟩:=e
  refine⟨bl,off+1,rfl,?_⟩
  simp only[List.map_cons,List.getElem_cons_succ] at hc
  rw[show off+1+j=off+(j+1) by omega,←hc]
  exact cell_of_heap (heap_setCell_other w ⟨p,0,none⟩ bl _ (by simp only;omega))
 ·exact Bytes.nil _ _
theorem mnext_any (p:Nat) (l:List UInt8) (n:Nat) (hn:0 < n) (hn2:n < 1000) (w:World) (h:MkAt w p l) :
  Calls Tryz.prog 90 #[.pointer (some ⟨p,0,none⟩),.int .i64 n] w λe w'=>e=.returned (.int .i64 (nx l n))∧MkStep w w' p l.tail:=by
 have H:=Hm h
 obtain⟨A,ca,hi⟩:=h
 have HI:=Hm hi
 have c0:w.cell? ⟨p,0,none⟩=some (.slice A l.length ca):=hcell hi.head 0
 have f0:=hfree hi.head 0
 have hp:=hlt hi.head
 cases l with
 |nil =>
  clear hi
  go_enter Tryz.func90,Tryz.ntmps90
  go_wp2_with fail
  go_ret
  exact⟨rfl,grownBy_below (bR w),H.o⟩
 |cons b l =>
  obtain⟨bl,off,rfl,hc⟩:=hi.bytes 0 (by simp)
  simp only[List.map_cons,List.getElem_cons_zero,Nat.add_zero] at hc
  unfold byteV at hc
  have hca:=hi.cap
  have hsm:=hi.small
  have hb256:(b.toNat:Int) < 256:=by have:=b.toNat_lt;omega
  have HB:=Hm hb256
  have hnz:¬(n:Int)=0:=by omega
  have ht:((b.toNat:Int).tmod n)=((b.toNat % n:Nat):Int):=by
   rw[Int.tmod_eq_emod_of_nonneg (by omega)];exact(Int.natCast_emod _ _).symm
  have hw1:IntKind.i64.wrap ((b.toNat % n:Nat):Int)=((b.toNat % n:Nat):Int):=Go.IntWalk.i64_in _ (by have:=Nat.mod_lt b.toNat hn;omega)
  have hw2:IntKind.i64.wrap (b.toNat:Int)=(b.toNat:Int):=Go.IntWalk.i64_in _ (by have:=HB.o;omega)
  have hl1:¬(l.length+1=0):=by omega
  simp only[List.length_cons] at c0 hca hsm
  clear hi hb256
  generalize hq:b.toNat=q at *
  have HQ:=Hm hq
  clear hq
  go_enter Tryz.func90,Tryz.ntmps90
  go_wp2_with fail
  ·go_ret
   refine⟨by rw[←HQ.o];rfl,?_⟩
   have:=mk_tail (off':=off) HI.o (.inr (List.eq_nil_of_length_eq_zero (by omega)))
   rw[show ca-1=0 by omega] at this
   exact this
  ·go_ret
   refine⟨by rw[←HQ.o];rfl,mk_tail HI.o (.inl rfl)⟩
end Go.Proofs.YtjkgligohegaeaaGreatDoor
