/- Lemmas of the row. -/
import Derived.Deep.QuietTactic
import Derived.Test.YtjkgligohegaeaaGreatDoorN02
set_option linter.all false
set_option maxRecDepth 20000
set_option maxHeartbeats 12800000
namespace Go.Proofs.YtjkgligohegaeaaGreatDoor
inductive Stp where
 |rd (i:Nat)
 |hv (i:Nat) (pend:List Nat)
def slotOf (o:Oper) (a:Act):Value:=match o.dst with|some d=>a.tmps.getD d undef|none=>undef
section
variable (P:Program) (ops:Array Oper) (Q:Exit→Act→World→Prop)
def Again (a:Act) (w:World):List Nat→Prop
 |[]=>True
 |i :: r=>(match ops[i]? with
  |some o=>if Region.wanted o (yielded ops a.tmps) then o.quietAt P a (λx=>x=w) w (slotOf o a) else slotOf o a=undef
  |none=>True)∧Again a w r
def Line:List Stp→Act→World→Prop
 |[],a,w=>Q .normal a w
 |.rd i :: r,a,w=>match ops[i]? with
  |none=>False
  |some o=>if Region.wanted o (yielded ops a.tmps) then o.quiet P a (λx=>x=w) (λa'=>Line r a' w) else Line r (a.put o.dst undef) w
 |.hv i pend :: r,a,w=>match ops[i]? with
  |none=>False
  |some o=>wpList P ops (λe a' w'=>e=.normal∧a'.defers=a.defers∧Again P ops a' w' pend∧Line r a' w') [o] a w
end
def depsAt (ops:Array Oper) (i:Nat):List Nat:=match ops[i]? with|some o=>depsOf o|none=>[]
def upOf (ops:Array Oper):Nat→List Nat→List Nat
 |0,s=>s
 |j+1,s=>upOf ops j (if s.contains j then s++depsAt ops j else s)
def noClob (ops:Array Oper) (S:List Nat) (r:Nat):Bool:=match ops[r]? with
 |some o=>o.dst.isSome && (o.looksAt ops).all λt=>S.all λk=>(dstOf ops k != some t) || (depsOf o).contains k
 |none=>false
def planOk (ops:Array Oper):List Stp→List Nat→Bool
 |[],S=>(List.range ops.size).all S.contains
 |.rd i :: r,S=>decide (i < ops.size) && !S.contains i && (depsAt ops i).all S.contains && planOk ops r (i :: S)
 |.hv i pend :: r,S=>decide (i < ops.size) && !S.contains i && (depsAt ops i).all S.contains &&
   (List.range ops.size).all (λk=>S.contains k || k == i || !(depsAt ops k).all S.contains) &&
   S.all (λk=>(upOf ops ops.size (depsAt ops i)).contains k || pend.contains k) && pend.all (λk=>S.contains k && noClob ops (i :: S) k) && planOk ops r (i :: S)
section
variable {P:Program} {ops:Array Oper} {Q:Exit→Act→World→Prop}
theorem line_rd {i:Nat} {r:List Stp} {a:Act} {w:World} {o:Oper} (ho:ops[i]?=some o)
  (h:∀ K:Act→Prop,(∀ a,Line P ops Q r a w→K a)→if Region.wanted o (yielded ops a.tmps) then o.quiet P a (λx=>x=w) K else K (a.put o.dst undef)):Line P ops Q (.rd i :: r) a w:=by
 unfold Line
 simp only[ho]
 exact h _ (λ_ h=>h)
theorem line_hv {i:Nat} {pend:List Nat} {r:List Stp} {a:Act} {w:World} {o:Oper} (ho:ops[i]?=some o)
  (h:wpList P ops (λe a' w'=>e=.normal∧a'.defers=a.defers∧Again P ops a' w' pend∧Line P ops Q r a' w') [o] a w):Line P ops Q (.hv i pend :: r) a w:=by
 unfold Line
 simp only[ho]
 exact h
theorem one_line {o:Oper} {i:Nat} {a a':Act} {w:World} {Φ:Act→World→Prop} {K:Act→World→Prop}
  (hi:ops[i]?=some o) (h:wpList P ops (λe b w'=>e=.normal∧b.defers=a.defers∧Φ b w') [o] a w) (hs:plainOp o.op=true)
  (heq:∀ x∈o.op.operands,a'.eval x=a.eval x) (hwt:Region.wanted o (yielded ops a'.tmps)=Region.wanted o (yielded ops a.tmps))
  (hK:∀ v w',Φ (a.put o.dst v) w'→K (a'.put o.dst v) w'):wpOp P ops Q i K a' w:=by
 have hns:∀ cs b,o.op≠.select cs b:=λcs b e=>by rw[e] at hs;cases hs
 unfold wpOp
 simp only[hi]
 simp only[wpList] at h
 rw[hwt]
 split
 ·rename_i hw
  rw[if_pos hw] at h
  rcases h with h|⟨_,b,wb,hb,_⟩
  ·left
   unfold Oper.wp at h⊢
   rw[execOp_congr o hns heq]
   generalize (execOp a.eval o).run P w=r at h
   cases r with
   |ok n w' =>
    cases n with
    |value v=>exact hK _ _ h.2.2
    |skip=>exact hK _ _ h.2.2
    |defer d =>
     have he:=congrArg List.length h.2.1
     cases hdst:o.dst<;>simp[Act.put,hdst] at he
    |enter f args =>
     refine Calls.mono h λe w'' he=>?_
     cases e with
     |returned v=>exact hK _ _ he.2.2
     |panicked c=>exact absurd he.1 (by simp)
     |outgrown=>obtain⟨_,_,hb,_⟩:=he;cases hb
    |row r args=>exact Rows.mono h λv w'' he=>hK _ _ he.2.2
    |_=>exact h.elim
   |halt x w' =>
    cases x with
    |panic v=>exact absurd h.1 (by simp)
    |_=>exact h.elim
  ·cases hb
 ·rename_i hw
  rw[if_neg hw] at h
  exact hK _ _ h.2.2
theorem up_listed {listed:Array Bool} (hcl:∀ i o,ops[i]?=some o→listed.getD i false=true→∀ j∈depsOf o,listed.getD j false=true) :
  ∀ (n:Nat) (s:List Nat),(∀ j∈s,listed.getD j false=true)→∀ j∈upOf ops n s,listed.getD j false=true
 |0,_,h,j,hj=>h j hj
 |n+1,s,h,j,hj=>by
  refine up_listed hcl n _ ?_ j hj
  intro k hk
  split at hk
  ·rename_i hc
   rcases List.mem_append.1 hk with hk|hk
   ·exact h k hk
   ·unfold depsAt at hk
    split at hk
    ·rename_i o ho
     exact hcl n o ho (h n (by simpa using hc)) k hk
    ·cases hk
  ·exact h k hk
abbrev Sof (ops:Array Oper) (a:Act) (vs:Nat→Value) (listed:Array Bool) (a':Act):Prop:=∀ w,Sofar ops (λ_ _ _=>True) (λ_ _=>True) a w vs listed a' w
variable {a:Act}
theorem Sof.put {vs vs':Nat→Value} {listed:Array Bool} {a':Act} {i:Nat} {o:Oper} {v:Value} (hok:relyOk ops=true) (h:Sof ops a vs listed a') (ho:ops[i]?=some o)
  (hl:listed.getD i false=false) (hdeps:∀ j∈depsOf o,listed.getD j false=true) (hv:vs' i=v) (hvs:∀ j,j≠i→vs' j=vs j) :
  Sof ops a vs' (listed.setIfInBounds i true) (a'.put o.dst v):=by
 intro w
 have hlt:i < ops.size:=(Array.getElem?_eq_some_iff.1 ho).1
 obtain⟨hpl,hdl,hlook,hone⟩:=relyOk_at hok ho
 have hset:∀ j d,(listed.setIfInBounds i true).getD j d=if i=j then true else listed.getD j d:=λj d=>getD_set listed i j (by rw[(h w).size];exact hlt) d
 have hdo:dstOf ops i=o.dst:=by unfold dstOf;rw[ho];rfl
 refine⟨by simp[(h w).size],?_,trivial,λ_ _ _=>trivial,by rw[put_size];exact(h w).len,by rw[put_defers];exact(h w).defers,?_,?_⟩
 ·intro k p hp hkl j hj
  rw[hset] at hkl⊢
  by_cases hij:i=j
  ·rw[if_pos hij]
  ·rw[if_neg hij]
   by_cases hik:i=k
   ·subst hik
    rw[ho] at hp
    cases hp
    exact hdeps j hj
   ·rw[if_neg hik] at hkl
    exact(h w).closed k p hp hkl j hj
 ·intro t j hs hd hl2
  rw[put_get]
  by_cases hij:j=i
  ·subst hij
   rw[hdo] at hd
   rw[if_pos ⟨hd,by rw[(h w).len];exact hs⟩,hv]
  ·rw[hset,if_neg (Ne.symm hij)] at hl2
   rw[if_neg,hvs j hij,(h w).done t j hs hd hl2]
   rintro ⟨hd2,_⟩
   exact hij (hone t j hd2 hd)
 ·intro t hn
  rw[put_get,if_neg]
  ·refine(h w).rest t λj hd=>?_
   have:=hn j hd
   rw[hset] at this
   split at this
   ·cases this
   ·exact this
  ·rintro ⟨hd2,_⟩
   have:=hn i (by rw[hdo];exact hd2)
   rw[hset,if_pos rfl] at this
   cases this
theorem Sof.same {vs:Nat→Value} {listed:Array Bool} {a':Act} {i:Nat} {o:Oper} (hok:relyOk ops=true) (hdst:∀ j t,dstOf ops j=some t→t < a.tmps.size) (h:Sof ops a vs listed a') (ho:ops[i]?=some o)
  (hl:listed.getD i false=false) (hdeps:∀ j∈depsOf o,listed.getD j false=true):∀ t∈o.looksAt ops,a'.tmps[t]?=(putsOn ops vs (depsOf o) a).tmps[t]?:=by
 obtain⟨hpl,hdl,hlook,hone⟩:=relyOk_at hok ho
 have w:World:=default
 intro t ht
 rcases hlook t ht with ⟨j,hj,hd⟩|hbehind
 ·have hs:=hdst j t hd
  have hjl:=lt_of_dst hd
  obtain⟨oj,hoj⟩:∃ oj,ops[j]?=some oj:=⟨_,Array.getElem?_eq_getElem hjl⟩
  have hdj:oj.dst=some t:=by have:=hd;unfold dstOf at this;rw[hoj] at this;exact this
  rw[(h w).done t j hs hd (hdeps j hj),putsOn_at ops vs t j hd (λk hk=>(relyOk_at hok hoj).2.2.2 t k hdj hk) _ _ hs hj]
 ·rw[(h w).rest t (λk hk=>?_),putsOn_other ops vs t _ _ (λk hk e=>?_)]
  ·obtain⟨p,hp,hip⟩:=hbehind k e
   have:=(relyOk_at hok hp).2.1 i hip
   have:=hdl k hk
   omega
  ·rcases hkl:listed.getD k false with _|_
   ·rfl
   ·obtain⟨p,hp,hip⟩:=hbehind k hk
    have:=(h w).closed k p hp hkl i hip
    rw[hl] at this
    cases this
theorem Sof.saw {vs:Nat→Value} {listed:Array Bool} {a':Act} {i:Nat} {o:Oper} {S:List Nat} (hok:relyOk ops=true) (hdst:∀ j t,dstOf ops j=some t→t < a.tmps.size) (h:Sof ops a vs listed a') (ho:ops[i]?=some o)
  (hS:∀ j,listed.getD j false=true→j∈S) (hdeps:∀ j∈depsOf o,listed.getD j false=true) (hnc:noClob ops S i=true):∀ t∈o.looksAt ops,a'.tmps[t]?=(putsOn ops vs (depsOf o) a).tmps[t]?:=by
 have w:World:=default
 intro t ht
 unfold noClob at hnc
 simp only[ho,Bool.and_eq_true] at hnc
 have hn:=List.all_eq_true.1 hnc.2 t ht
 by_cases hex:∃ k,dstOf ops k=some t∧listed.getD k false=true
 ·obtain⟨k,hk,hkl⟩:=hex
  have h1:=List.all_eq_true.1 hn k (hS k hkl)
  have hkd:k∈depsOf o:=by simpa [hk] using h1
  have hs:=hdst k t hk
  have hjl:=lt_of_dst hk
  obtain⟨oj,hoj⟩:∃ oj,ops[k]?=some oj:=⟨_,Array.getElem?_eq_getElem hjl⟩
  have hdj:oj.dst=some t:=by have:=hk;unfold dstOf at this;rw[hoj] at this;exact this
  rw[(h w).done t k hs hk hkl,putsOn_at ops vs t k hk (λk' hk'=>(relyOk_at hok hoj).2.2.2 t k' hdj hk') _ _ hs hkd]
 ·rw[(h w).rest t (λk hk=>?_),putsOn_other ops vs t _ _ (λk hk e=>?_)]
  ·exact hex ⟨k,e,hdeps k hk⟩
  ·rcases hkl:listed.getD k false with _|_
   ·rfl
   ·exact absurd ⟨k,hk,hkl⟩ hex
theorem noSel {o:Oper} (h:plainOp o.op=true):∀ cs b,o.op≠.select cs b:=λcs b e=>by rw[e] at h;cases h
structure Stand (P:Program) (ops:Array Oper) (a:Act) (vs:Nat→Value) (real can:Array Bool) (S:List Nat) (ar ac:Act) (w:World):Prop where
 real_:Sof ops a vs real ar
 can_:Sof ops a vs can ac
 mem:∀ j,can.getD j false=true↔j∈S
 sub:∀ j,real.getD j false=true→can.getD j false=true
 pend:∀ i o,ops[i]?=some o→can.getD i false=true→real.getD i false=false→YieldsIn P ops (λx=>x=w) o (vs i) (putsOn ops vs (depsOf o) a)
theorem putsOn_congr {vs vs':Nat→Value}:∀ (l:List Nat) (a:Act),(∀ j∈l,vs' j=vs j)→putsOn ops vs' l a=putsOn ops vs l a
 |[],_,_=>rfl
 |j :: js,a,h=>by rw[putsOn,putsOn,h j (by simp),putsOn_congr js _ (λk hk=>h k (by simp[hk]))]
theorem line_step (hok:relyOk ops=true) (hdst:∀ j t,dstOf ops j=some t→t < a.tmps.size) {real:Array Bool} {ar:Act} {w:World} {i:Nat} {o:Oper} (ho:ops[i]?=some o)
  (hl:real.getD i false=false) (hdeps:∀ j∈depsOf o,real.getD j false=true) (K:Act→World→Prop)
  (hK:∀ (vs:Nat→Value) (can:Array Bool) (S:List Nat) (ar' ac:Act) (w':World) (plan:List Stp),planOk ops plan S=true→Stand P ops a vs (real.setIfInBounds i true) can S ar' ac w'→Line P ops Q plan ac w'→K ar' w') :
  ∀ (plan:List Stp) (S:List Nat) (vs:Nat→Value) (can:Array Bool) (ac:Act),planOk ops plan S=true→Stand P ops a vs real can S ar ac w→Line P ops Q plan ac w→wpOp P ops Q i K ar w:=by
 have hlt:i < ops.size:=(Array.getElem?_eq_some_iff.1 ho).1
 obtain⟨hpl,hdl,hlook,hone⟩:=relyOk_at hok ho
 have shown:∀ (plan:List Stp) (S:List Nat) (vs:Nat→Value) (can:Array Bool) (ac:Act),planOk ops plan S=true→Stand P ops a vs real can S ar ac w→Line P ops Q plan ac w→can.getD i false=true→wpOp P ops Q i K ar w:=by
  intro plan S vs can ac hplan h hline hc
  have hy:=h.pend i o ho hc hl
  have hsame:=Sof.same hok hdst h.real_ ho hl hdeps
  have he:execOp ar.eval o=execOp (putsOn ops vs (depsOf o) a).eval o:=execOp_congr o (noSel hpl) λx hx=>eval_same x λt e=>hsame t (looks_operand (by rw[←e];exact hx))
  have hy':YieldsIn P ops (λx=>x=w) o (vs i) ar:=hy.of_same he (wanted_same hsame)
  have hst:Stand P ops a vs (real.setIfInBounds i true) can S (ar.put o.dst (vs i)) ac w:=by
   have hset:∀ j d,(real.setIfInBounds i true).getD j d=if i=j then true else real.getD j d:=λj d=>getD_set real i j (by rw[(h.real_ default).size];exact hlt) d
   refine⟨Sof.put hok h.real_ ho hl hdeps rfl (λ_ _=>rfl),h.can_,h.mem,λj hj=>?_,λk p hp hck hrk=>?_⟩
   ·rw[hset] at hj
    by_cases hij:i=j
    ·rw[←hij];exact hc
    ·rw[if_neg hij] at hj;exact h.sub j hj
   ·rw[hset] at hrk
    by_cases hij:i=k
    ·rw[if_pos hij] at hrk;cases hrk
    ·rw[if_neg hij] at hrk;exact h.pend k p hp hck hrk
  have hres:=hK vs can S _ ac w plan hplan hst hline
  unfold wpOp
  simp only[ho]
  rcases hy' with ⟨hw,hv⟩|⟨hw,hv⟩
  ·rw[if_pos hw]
   left
   refine Oper.wp_of_quiet (C:=λx=>x=w) (K:=λa'=>a'=ar.put o.dst (vs i)) rfl ?_ ⟨vs i,hv,rfl⟩
   rintro a' w' rfl rfl
   exact hres
  ·rw[if_neg (by simp[hw])]
   rw[←hv]
   exact hres
 intro plan
 induction plan with
 |nil =>
  intro S vs can ac hplan h hline
  refine shown [] S vs can ac hplan h hline ((h.mem i).2 ?_)
  have:=List.all_eq_true.1 (show (List.range ops.size).all S.contains=true from hplan) i (List.mem_range.2 hlt)
  simpa using this
 |cons st rest ih =>
  intro S vs can ac hplan h hline
  by_cases hci':can.getD i false=true
  ·exact shown _ S vs can ac hplan h hline hci'
  have hci:can.getD i false=false:=by simpa using hci'
  cases st with
  |rd r =>
   simp only[planOk,Bool.and_eq_true,decide_eq_true_eq,Bool.not_eq_true'] at hplan
   obtain⟨⟨⟨hrl,hrS⟩,hrd⟩,hrest⟩:=hplan
   obtain⟨p,hp⟩:∃ p,ops[r]?=some p:=⟨_,Array.getElem?_eq_getElem hrl⟩
   have hcr:can.getD r false=false:=by
    rcases hh:can.getD r false with _|_
    ·rfl
    ·have:=(h.mem r).1 hh
     simp[this] at hrS
   have hdr:∀ j∈depsOf p,can.getD j false=true:=by
    intro j hj
    have:=List.all_eq_true.1 hrd j (by unfold depsAt;rw[hp];exact hj)
    exact(h.mem j).2 (by simpa using this)
   have hplp:=(relyOk_at hok hp).1
   have hdlp:=(relyOk_at hok hp).2.1
   have hq:Go.qOp P ops (λx=>x=w) r (λa'=>Line P ops Q rest a' w) ac:=by
    unfold Go.qOp
    simp only[hp]
    unfold Line at hline
    simp only[hp] at hline
    exact hline
   obtain⟨v,hy,hnext⟩:=yieldsIn_of_qOp hp hq
   have hrr:real.getD r false=false:=by
    rcases hh:real.getD r false with _|_
    ·rfl
    ·rw[h.sub r hh] at hcr;cases hcr
   have hset:∀ j d,(can.setIfInBounds r true).getD j d=if r=j then true else can.getD j d:=λj d=>getD_set can r j (by rw[(h.can_ default).size];exact hrl) d
   have hvne:∀ j,real.getD j false=true→j≠r:=λj hj e=>by rw[e,hrr] at hj;cases hj
   have hcne:∀ j,can.getD j false=true→j≠r:=λj hj e=>by rw[e,hcr] at hj;cases hj
   refine ih (r :: S) (λj=>if j=r then v else vs j) (can.setIfInBounds r true) (ac.put p.dst v) hrest ⟨?_,?_,?_,?_,?_⟩ hnext
   ·intro w0
    have h0:=h.real_ w0
    exact⟨h0.size,h0.closed,trivial,λ_ _ _=>trivial,h0.len,h0.defers,λt j hs hd hj=>by simp only[if_neg (hvne j hj)];exact h0.done t j hs hd hj,h0.rest⟩
   ·exact Sof.put hok h.can_ hp hcr hdr (by simp) (λj hj=>by simp[hj])
   ·intro j
    rw[hset,List.mem_cons]
    by_cases hij:r=j
    ·simp[hij]
    ·rw[if_neg hij,h.mem j]
     simp[Ne.symm hij]
   ·intro j hj
    rw[hset]
    split
    ·rfl
    ·exact h.sub j hj
   ·intro k q hq' hck hrk
    rw[hset] at hck
    by_cases hij:r=k
    ·subst hij
     rw[hp] at hq'
     cases hq'
     have hsame:=Sof.same hok hdst h.can_ hp hcr hdr
     have hy2:=hy.of_same (a':=putsOn ops vs (depsOf p) a) (execOp_congr p (noSel hplp) λx hx=>(eval_same x λt e=>(hsame t (looks_operand (by rw[←e];exact hx))).symm)) (wanted_same λt ht=>(hsame t ht).symm)
     rw[putsOn_congr (vs:=vs) _ _ λj hj=>if_neg (hcne j (hdr j hj))]
     simpa using hy2
    ·rw[if_neg hij] at hck
     have h1:=h.pend k q hq' hck hrk
     have hdk:∀ j∈depsOf q,can.getD j false=true:=λj hj=>(h.can_ w).closed k q hq' hck j hj
     rw[putsOn_congr (vs:=vs) _ _ λj hj=>if_neg (hcne j (hdk j hj)),if_neg (Ne.symm hij)]
     exact h1
  |hv r pend =>
   simp only[planOk,Bool.and_eq_true,decide_eq_true_eq,Bool.not_eq_true'] at hplan
   obtain⟨⟨⟨⟨⟨⟨hrl,hrS⟩,hrd⟩,honly⟩,hup⟩,hpend⟩,hrest⟩:=hplan
   have hir:i=r:=by
    have h1:=List.all_eq_true.1 honly i (List.mem_range.2 hlt)
    simp only[Bool.or_eq_true,Bool.not_eq_true',beq_iff_eq] at h1
    rcases h1 with (h1|h1)|h1
    ·have:=(h.mem i).2 (by simpa using h1)
     rw[hci] at this;cases this
    ·exact h1
    ·exfalso
     rw[←Bool.not_eq_true] at h1
     apply h1
     rw[List.all_eq_true]
     intro j hj
     have hj':j∈depsOf o:=by unfold depsAt at hj;rw[ho] at hj;exact hj
     simpa using (h.mem j).1 (h.sub j (hdeps j hj'))
   subst hir
   have hsr:=Sof.same hok hdst h.real_ ho hl hdeps
   have hdc:∀ j∈depsOf o,can.getD j false=true:=λj hj=>h.sub j (hdeps j hj)
   have hsc:=Sof.same hok hdst h.can_ ho hci hdc
   have hsame:∀ t∈o.looksAt ops,ar.tmps[t]?=ac.tmps[t]?:=λt ht=>(hsr t ht).trans (hsc t ht).symm
   unfold Line at hline
   simp only[ho] at hline
   refine one_line ho hline hpl (λx hx=>eval_same x λt e=>hsame t (looks_operand (by rw[←e];exact hx))) (wanted_same hsame) ?_
   rintro v w' ⟨hag,hnext⟩
   have hsetr:∀ j d,(real.setIfInBounds i true).getD j d=if i=j then true else real.getD j d:=λj d=>getD_set real i j (by rw[(h.real_ default).size];exact hlt) d
   have hsetc:∀ j d,(can.setIfInBounds i true).getD j d=if i=j then true else can.getD j d:=λj d=>getD_set can i j (by rw[(h.can_ default).size];exact hlt) d
   have hcan':Sof ops a (λj=>if j=i then v else vs j) (can.setIfInBounds i true) (ac.put o.dst v):=Sof.put hok h.can_ ho hci hdc (by simp) (λj hj=>by simp[hj])
   have hmem':∀ j,(can.setIfInBounds i true).getD j false=true↔j∈i :: S:=by
    intro j
    rw[hsetc,List.mem_cons]
    by_cases hij:i=j
    ·simp[hij]
    ·rw[if_neg hij,h.mem j]
     simp[Ne.symm hij]
   refine hK (λj=>if j=i then v else vs j) (can.setIfInBounds i true) (i :: S) _ _ w' rest hrest ⟨Sof.put hok h.real_ ho hl hdeps (by simp) (λj hj=>by simp[hj]),hcan',hmem',?_,?_⟩ hnext
   ·intro j hj
    rw[hsetr] at hj
    rw[hsetc]
    split
    ·rfl
    ·rename_i hij
     rw[if_neg hij] at hj
     exact h.sub j hj
   ·intro k q hq' hck hrk
    rw[hsetr] at hrk
    rw[hsetc] at hck
    by_cases hij:i=k
    ·rw[if_pos hij] at hrk;cases hrk
    ·rw[if_neg hij] at hrk hck
     have hkS:=(h.mem k).1 hck
     have h1:=List.all_eq_true.1 hup k hkS
     have hkp:k∈pend:=by
      simp only[Bool.or_eq_true] at h1
      rcases h1 with h1|h1
      ·exfalso
       have:=up_listed (listed:=real) (h.real_ w).closed ops.size (depsAt ops i) (λj hj=>hdeps j (by unfold depsAt at hj;rw[ho] at hj;exact hj)) k (by simpa using h1)
       rw[hrk] at this;cases this
      ·simpa using h1
     have h2:=List.all_eq_true.1 hpend k hkp
     simp only[Bool.and_eq_true] at h2
     have hA:∀ l:List Nat,Again P ops (ac.put o.dst v) w' l→k∈l→if Region.wanted q (yielded ops (ac.put o.dst v).tmps) then q.quietAt P (ac.put o.dst v) (λx=>x=w') w' (slotOf q (ac.put o.dst v)) else slotOf q (ac.put o.dst v)=undef:=by
      intro l
      induction l with
      |nil=>intro _ hk;cases hk
      |cons x xs ihx =>
       intro hA hk
       rcases List.mem_cons.1 hk with rfl|hk
       ·have:=hA.1
        rw[hq'] at this
        exact this
       ·exact ihx hA.2 hk
     have hk2:=hA pend hag hkp
     have hdk:∀ j∈depsOf q,(can.setIfInBounds i true).getD j false=true:=λj hj=>by
      rw[hsetc]
      split
      ·rfl
      ·exact(h.can_ w).closed k q hq' hck j hj
     have hsaw:=Sof.saw hok hdst hcan' hq' (λj hj=>(hmem' j).1 hj) hdk h2.2
     obtain⟨hplq,-,-,-⟩:=relyOk_at hok hq'
     have hslot:slotOf q (ac.put o.dst v)=(if k=i then v else vs k)∨q.dst=none:=by
      cases hd:q.dst with
      |none=>exact .inr rfl
      |some t =>
       left
       have hdk':dstOf ops k=some t:=by unfold dstOf;rw[hq'];exact hd
       have:=(hcan' w).done t k (hdst k t hdk') hdk' (by rw[hsetc,if_neg hij];exact hck)
       unfold slotOf
       rw[hd]
       simp only[Array.getD_eq_getD_getElem?,this,Option.getD_some]
     rcases hslot with hsl|hnone
     ·refine YieldsIn.of_same (a:=ac.put o.dst v) ?_ (execOp_congr q (noSel hplq) λx hx=>(eval_same x λt e=>(hsaw t (looks_operand (by rw[←e];exact hx))).symm)) (wanted_same λt ht=>(hsaw t ht).symm)
      rw[hsl] at hk2
      unfold YieldsIn
      split at hk2
      ·rename_i hw
       refine .inl ⟨hw,?_⟩
       rintro x rfl
       exact hk2
      ·rename_i hw
       exact .inr ⟨by simpa using hw,hk2⟩
     ·have:=h2.2
      unfold noClob at this
      simp[hq',hnone] at this
theorem Stand.frame {vs:Nat→Value} {real can:Array Bool} {S:List Nat} {ar ac:Act} {w:World} (hok:relyOk ops=true) (h:Stand P ops a vs real can S ar ac w) (hall:∀ i,i < ops.size→real.getD i false=true):ar=ac :=
 ((h.real_ w).frame hok hall).trans ((h.can_ w).frame hok λi hi=>h.sub i (hall i hi)).symm
theorem line_any (hok:relyOk ops=true) (hdst:∀ j t,dstOf ops j=some t→t < a.tmps.size) :
  ∀ (fuel:Nat) (plan:List Stp) (S:List Nat) (vs:Nat→Value) (real can:Array Bool) (ar ac:Act) (w:World),planOk ops plan S=true→Stand P ops a vs real can S ar ac w→Line P ops Q plan ac w →
   ((List.range ops.size).filter λi=>!real.getD i false).length≤fuel→wpAny P .any ops Q fuel real ar w:=by
 have fin:∀ (plan:List Stp) (S:List Nat) (vs:Nat→Value) (real can:Array Bool) (ar ac:Act) (w:World),planOk ops plan S=true→Stand P ops a vs real can S ar ac w→Line P ops Q plan ac w→Region.ready .any ops real=[]→Q .normal ar w:=by
  intro plan S vs real can ar ac w hplan h hline hr
  have hall:=ready_nil hok (h.real_ w).size hr
  rw[h.frame hok hall]
  have hS:∀ i,i < ops.size→i∈S:=λi hi=>(h.mem i).1 (h.sub i (hall i hi))
  cases plan with
  |nil=>exact hline
  |cons st rest =>
   exfalso
   cases st with
   |rd r =>
    simp only[planOk,Bool.and_eq_true,decide_eq_true_eq,Bool.not_eq_true'] at hplan
    have:=hplan.1.1.2
    simp[hS r hplan.1.1.1] at this
   |hv r pend =>
    simp only[planOk,Bool.and_eq_true,decide_eq_true_eq,Bool.not_eq_true'] at hplan
    have:=hplan.1.1.1.1.1.2
    simp[hS r hplan.1.1.1.1.1.1] at this
 intro fuel
 induction fuel with
 |zero =>
  intro plan S vs real can ar ac w hplan h hline hc
  have hr:Region.ready .any ops real=[]:=by
   rw[List.eq_nil_iff_forall_not_mem]
   intro i hi
   obtain⟨o,ho,hl,_⟩:=ready_mem hi
   have hlt:i < ops.size:=(Array.getElem?_eq_some_iff.1 ho).1
   have:i∈(List.range ops.size).filter λi=>!real.getD i false:=by
    rw[List.mem_filter]
    refine⟨List.mem_range.2 hlt,?_⟩
    simp only[Array.getD_eq_getD_getElem?,Array.getElem?_eq_getElem (show i < real.size by rw[(h.real_ w).size];exact hlt),Option.getD_some] at hl⊢
    simp[hl]
   rw[List.eq_nil_of_length_eq_zero (Nat.le_zero.1 hc)] at this
   cases this
  exact⟨hr,fin plan S vs real can ar ac w hplan h hline hr⟩
 |succ fuel ih =>
  intro plan S vs real can ar ac w hplan h hline hc
  refine⟨fin plan S vs real can ar ac w hplan h hline,λi hi=>?_⟩
  obtain⟨o,ho,hl,hdeps⟩:=ready_mem hi
  have hlt:i < ops.size:=(Array.getElem?_eq_some_iff.1 ho).1
  have hl':real.getD i false=false:=by
   simp only[Array.getD_eq_getD_getElem?,Array.getElem?_eq_getElem (show i < real.size by rw[(h.real_ w).size];exact hlt),Option.getD_some] at hl⊢
   exact hl
  refine line_step hok hdst ho hl' hdeps _ ?_ plan S vs can ac hplan h hline
  intro vs' can' S' ar' ac' w' plan' hplan' h' hline'
  refine ih plan' S' vs' _ can' ar' ac' w' hplan' h' hline' ?_
  have hset:∀ j d,(real.setIfInBounds i true).getD j d=if i=j then true else real.getD j d:=λj d=>getD_set real i j (by rw[(h.real_ w).size];exact hlt) d
  have hlt2:((List.range ops.size).filter λj=>!(real.setIfInBounds i true).getD j false).length < ((List.range ops.size).filter λj=>!real.getD j false).length:=by
   have e:((List.range ops.size).filter λj=>!(real.setIfInBounds i true).getD j false)=(((List.range ops.size).filter λj=>!real.getD j false).filter λj=>!(decide (i=j))):=by
    rw[List.filter_filter]
    refine List.filter_congr λj _=>?_
    rw[hset]
    by_cases hij:i=j<;>simp[hij]
   rw[e]
   refine List.length_filter_lt_length_iff_exists.2 ⟨i,?_,by simp⟩
   rw[List.mem_filter]
   exact⟨List.mem_range.2 hlt,by simp[hl']⟩
  omega
theorem wp_region_line {id:Nat} {l:List Oper} {w:World} (plan:List Stp) {n:Nat} (hm:P.follows .mixedOrders=true) (hok:relyOk l.toArray=true) (hdst':dstOk l.toArray n=true) (hplan:planOk l.toArray plan []=true)
  (hn:a.tmps.size=n) (h:Line P l.toArray Q plan a w.drew):(Code.region id l.toArray true).wp P Q a w:=by
 have hdst:∀ j t,dstOf l.toArray j=some t→t < a.tmps.size:=by rw[hn];exact dstOk_at hdst'
 refine wp_region_any hm ?_
 have h0:∀ i,(Array.replicate l.toArray.size false).getD i false=false:=by
  intro i
  simp only[Array.getD_eq_getD_getElem?,Array.getElem?_replicate]
  split<;>rfl
 have hs:Sof l.toArray a (λ_=>undef) (Array.replicate l.toArray.size false) a:=λw0 =>
  ⟨by simp,λi o _ h=>(by rw[h0] at h;cases h),trivial,λj _ h=>trivial,rfl,rfl,λt j _ _ h=>(by rw[h0] at h;cases h),λ_ _=>rfl⟩
 exact line_any hok hdst _ plan [] (λ_=>undef) _ (Array.replicate l.toArray.size false) a a w.drew hplan
  ⟨hs,hs,λj=>by rw[h0];simp,λj hj=>hj,λi o _ hc=>(by rw[h0] at hc;cases hc)⟩ h (Nat.le_trans (List.length_filter_le _ _) (by simp))
theorem rgn {id:Nat} {l:List Oper} {w:World} (plan:List Stp) {n:Nat} (hn:a.tmps.size=n) (h:Line P l.toArray Q plan a w.drew) (hm:P.follows .mixedOrders=true:=by kernel_rfl) (hok:relyOk l.toArray=true:=by kernel_rfl) (hd:dstOk l.toArray n=true:=by kernel_rfl) (hp:planOk l.toArray plan []=true:=by kernel_rfl):(Code.region id l.toArray true).wp P Q a w:=wp_region_line plan hm hok hd hp hn h
end
end Go.Proofs.YtjkgligohegaeaaGreatDoor
namespace Go.Proofs.YtjkgligohegaeaaGreatDoor
open Go.RowKit
theorem eq4 (x0 x1 x2 x3 y0 y1 y2 y3:Int) (w:World):(Op.equalIn 10000 232 (.agg #[.int .u8 x0,.int .u8 x1,.int .u8 x2,.int .u8 x3]) (.agg #[.int .u8 y0,.int .u8 y1,.int .u8 y2,.int .u8 y3])).run Tryz.prog w=.ok (decide (x0=y0∧x1=y1∧x2=y2∧x3=y3)) w:=by
 have hu:Tryz.prog.underlying 232=some (.array 4 5):=by kernel_rfl
 have h5:Tryz.prog.underlying 5=some (.int .u8):=by kernel_rfl
 have hs:Tryz.prog.cellsOf 5=1:=by kernel_rfl
 rw[show (10000:Nat)=9999+1 from rfl,Op.equalIn]
 simp[go_sem,run_underlying hu,List.range',run_equalIn_int,h5]
 by_cases h0:x0=y0<;>by_cases h1:x1=y1<;>by_cases h2:x2=y2<;>by_cases h3:x3=y3<;>simp[h0,h1,h2,h3]
theorem run_arr4 (A:Option Addr) (c:Nat) (w:World):(Instr.arrayAt 232 (.slice A 4 c)).run Tryz.prog w=.ok (.pointer A) w:=by
 have hu:Tryz.prog.underlying 232=some (.array 4 5):=by kernel_rfl
 simp[Instr.arrayAt,go_sem,run_underlying hu]
theorem run_part (b o len ca lo hi:Nat) (h1:lo≤hi) (h2:hi≤ca) (w:World) :
  (Instr.sliceAt 38 (.slice (some ⟨b,o,none⟩) len ca) (some (.int .i64 lo)) (some (.int .i64 hi)) none).run Tryz.prog w=.ok (.slice (some ⟨b,if ca=lo then o else o+lo,none⟩) (hi-lo) (ca-lo)) w:=by
 have hu:=Tryz.underlying38
 have hs:Tryz.prog.cellsOf 5=1:=by kernel_rfl
 have h3:(hi:Int)≤(ca:Int):=by omega
 have h4:(lo:Int)≤(hi:Int):=by omega
 by_cases h:ca=lo
 ·subst h
  simp[Instr.sliceAt,Instr.slice,Instr.sliceBounds,Instr.sliceBound,go_sem,run_underlying hu,h2,h1]
 ·simp[Instr.sliceAt,Instr.slice,Instr.sliceBounds,Instr.sliceBound,go_sem,run_underlying hu,h2,h1,h,Addr.add]
theorem take_main (blk off:Nat) (ca:Nat) (k:UInt8) (t:List UInt8) (w:World) (h:Bytes w (some ⟨blk,off,none⟩) (111 :: k :: t)) (hl:t.length≤10000000) (hca:t.length+2≤ca) (ht0:0 < t.length) :
  Calls Tryz.prog 93 #[.slice (some ⟨blk,off,none⟩) (t.length+2) ca] w (TakePost w (111 :: k :: t)):=by
 have H:=Hm h
 have HL:=Hm hl
 obtain⟨b',o',e,c0⟩:=h.at_ 0 (by simp)
 simp only[Option.some.injEq,Addr.mk.injEq,and_true] at e
 obtain⟨rfl,rfl⟩:=e
 obtain⟨b',o',e,c1⟩:=h.at_ 1 (by simp)
 simp only[Option.some.injEq,Addr.mk.injEq,and_true] at e
 obtain⟨rfl,rfl⟩:=e
 simp only[Nat.add_zero,List.getElem_cons_zero,List.getElem_cons_succ] at c0 c1
 have e111:((111:UInt8).toNat:Int)=111:=by decide
 rw[e111] at c0
 clear h hl e111
 have hb':¬((t.length:Int)+2 < 2):=by omega
 obtain⟨M,hM⟩:∃ M,M=min (t.length+2) 12:=⟨_,rfl⟩
 have hmin:∀ (ts:Array TypeId) (ty:TypeId) (w:World),(Builtin.min_ ts ty #[.int .i64 ((t.length:Int)+2),.int .i64 12]).run Tryz.prog w=.ok (.int .i64 (M:Int)) w:=by
  intro ts ty w
  rw[run_min_int2]
  congr 2
  subst hM
  split<;>omega
 have hM2:2≤M:=by omega
 have hMc:M≤ca:=by omega
 have hca2:¬ca=2:=by omega
 have HM:=Hm hM
 have hnew:∀ off' ca',(off'=off+2∨ca=2)→Calls Tryz.prog 86 #[.slice (some ⟨blk,off',none⟩) (M-2) ca'] w λe w'=>Below w.heap.size w w'∧∃ p,e=.returned (.pointer (some ⟨p,0,none⟩))∧w.heap.size≤p∧RdAt w' p (t.take 10) 0:=by
  intro off' ca' ho
  have hlen:(t.take 10).length=M-2:=by simp;omega
  have hB:Bytes w (some ⟨blk,off',none⟩) (t.take 10):=by
   rcases ho with rfl|ho
   ·have:=(H.o.drop 2).take 10
    have e:(⟨blk,off,none⟩:Addr).add 2=⟨blk,off+2,none⟩:=by simp[Addr.add]
    rw[e] at this
    simpa using this
   ·have:t.take 10=[]:=List.eq_nil_of_length_eq_zero (by omega)
    rw[this]
    exact Bytes.nil _ _
  have:=new_rd (some ⟨blk,off',none⟩) ca' (t.take 10) w hB (by simp;omega)
  rwa [hlen] at this
 have HNew:=Hm hnew
 clear hM hnew
 obtain⟨⟨n,r,c⟩,hx⟩:∃ x,num (t.take 10)=x:=⟨_,rfl⟩
 have HX:=Hm hx
 have HR:Hd (n < 18446744073709551616∧r.length≤M-2):=⟨by
  have h1:=numC_lt (t.take 10) 0
  have h2:=numC_rest (t.take 10) 0
  simp only[numC,if_true,hx] at h1 h2
  have:=HM.o
  simp at h2
  omega⟩
 clear hx
 obtain⟨a,ha2,rfl⟩:∃ a,2≤a∧M=a+r.length:=⟨M-r.length,by have:=HR.o;omega,by have:=HR.o;omega⟩
 have herr:∀ (cd:Nat) (w':World),takeF (111 :: k :: t)=⟨0,[],0,cd⟩→Below w.heap.size w w'→TakePost w (111 :: k :: t) (.returned (.tuple #[.int .u8 0,.slice none 0 0,.int .i64 0,.int .i64 cd])) w':=by
  intro cd w' e hb
  unfold TakePost
  rw[e]
  exact⟨hb,_,rfl,rfl,.inl ⟨rfl,rfl⟩⟩
 have HErr:=Hm herr
 clear herr
 have hF:takeF (111 :: k :: t)=if c≠0 then ⟨0,[],0,c⟩ else if 65536 < n then ⟨0,[],0,4⟩ else if t.length+2 < a+4+n then ⟨0,[],0,3⟩ else
   if four (csum (k :: ((111 :: k :: t).drop (a+4)).take n))≠((111 :: k :: t).drop a).take 4 then ⟨0,[],0,6⟩ else ⟨k,((111 :: k :: t).drop (a+4)).take n,a+4+n,0⟩:=by
  have e:min (t.length+2) 12-r.length=a:=by have:=HM.o;omega
  simp only[takeF,HX.o,e]
  rw[if_neg (by decide)]
 have HF:=Hm hF
 clear hF
 go_enter Tryz.func93,Tryz.ntmps93
 go_wp2_with fail
 refine(HNew.o _ _ (by omega)).mono ?_
 rintro e w1 ⟨hb1,p,rfl,hp,hrd⟩
 have HB1:=Hm hb1
 have HP:=Hm hp
 have HRd:=Hm hrd
 clear hb1 hp hrd
 go_wp2_with fail
 have hnum:=num_rd p (t.take 10) 0 w1 HRd.o (by simp;omega)
 rw[show numC (t.take 10) 0=(n,r,c) from by simp only[numC,if_true];exact HX.o] at hnum
 refine hnum.mono ?_
 clear hnum
 rintro e w2 ⟨rfl,hs⟩
 have HS:=Hm hs
 clear hs
 go_wp2_with fail
 refine(code_rd p r c w2 HS.o.rd).mono ?_
 rintro e w3 ⟨rfl,rfl⟩
 have HB3:Hd (Below w.heap.size w w3):=⟨HB1.o.grown HS.o.grown HB1.o.size (λq hq=>by cases hq;exact HP.o)⟩
 by_cases hc:c=0
 ·subst hc
  by_cases hn:65536 < n
  ·have hn':(65536:Int) < (n:Int):=by omega
   have HN:=Hm hn
   clear hn
   go_wp2_with fail
   refine bodyPost_ret (v:=.tuple #[.int .u8 0,.slice none 0 0,.int .i64 0,.int .i64 (4:Nat)]) (by simp[results,Tryz.results93,go_sem]) rfl ?_
   exact HErr.o 4 _ (by rw[HF.o];simp[HN.o]) HB3.o
  ·have hn':(n:Int)≤65536:=by omega
   have ha12:(a:Int)≤12:=by have:=HM.o;omega
   have HN:=Hm hn
   go_wp2_with fail
   refine(left_rd p r 0 w3 HS.o.rd).mono ?_
   rintro e w4 ⟨rfl,rfl⟩
   by_cases hsz:t.length+2 < a+4+n
   ·have hsz':(t.length:Int)+2 < (a:Int)+4+(n:Int):=by omega
    have HZ:=Hm hsz
    clear hsz
    go_wp2_with fail
    refine bodyPost_ret (v:=.tuple #[.int .u8 0,.slice none 0 0,.int .i64 0,.int .i64 (3:Nat)]) (by simp[results,Tryz.results93,go_sem]) rfl ?_
    exact HErr.o 3 _ (by rw[HF.o];simp[HN.o,HZ.o]) HB3.o
   ·have hsz':¬(t.length:Int)+2 < (a:Int)+4+(n:Int):=by omega
    have hsn:a+4+n≤t.length+2:=by omega
    have HZ:=Hm hsz
    clear hsz
    obtain⟨i0,hi,hz0,hz1,hz2⟩:=info_parts infoByte
    have HI:=Hm (And.intro hi (And.intro hz0 (And.intro hz1 hz2)))
    clear hi hz0 hz1 hz2
    obtain⟨body,hbody⟩:∃ body,body=((111 :: k :: t).drop (a+4)).take n:=⟨_,rfl⟩
    have hbl:body.length=n:=by rw[hbody];simp;omega
    have HBL:=Hm hbl
    have HBody:=Hm hbody
    have hT:∀ off',(off'=off+(a+4)∨n=0)→Bytes (w4.alloc (.cells #[] 5)) (some ⟨blk,off',none⟩) body:=by
     intro off' ho
     rcases ho with rfl|ho
     ·have h1:=(H.o.drop (a+4)).take n
      have e:(⟨blk,off,none⟩:Addr).add (a+4)=⟨blk,off+(a+4),none⟩:=by unfold Addr.add;split<;>simp_all
      rw[e,←hbody] at h1
      exact(h1.below HB3.o).below ((Below.refl _ _).alloc (Nat.le_refl _) _)
     ·have:body=[]:=List.eq_nil_of_length_eq_zero (by omega)
      rw[this]
      exact Bytes.nil _ _
    have HT:=Hm hT
    have hown0:(w4.alloc (.cells #[] 5)).ownsRow w4.heap.size 5 1 (.slice (some ⟨w4.heap.size,0,none⟩) 0 0) 0 [] :=
     ⟨rfl,.inr ⟨w4.heap.size,0,#[],rfl,Nat.le_refl _,heap_new _ _,Nat.le_refl _,Nat.zero_le _,rfl,rfl⟩⟩
    have HO0:=Hm hown0
    clear hbl hbody hT hown0
    obtain⟨off1,ho1,hsl1⟩:∃ off1,(off1=off+(a+4)∨n=0)∧∀ w:World,(Instr.sliceAt 38 (.slice (some ⟨blk,off,none⟩) (t.length+2) ca) (some (.int .i64 ((a:Int)+4))) (some (.int .i64 ((a:Int)+4+(n:Int)))) none).run Tryz.prog w=.ok (.slice (some ⟨blk,off1,none⟩) n (ca-(a+4))) w:=by
     refine⟨if ca=a+4 then off else off+(a+4),?_,λw=>?_⟩
     ·by_cases h:ca=a+4
      ·right;omega
      ·left;rw[if_neg h]
     ·have:=run_part blk off (t.length+2) ca (a+4) (a+4+n) (by omega) (by omega) w
      rw[show a+4+n-(a+4)=n from by omega] at this
      exact_mod_cast this
    have hsl2:∀ w:World,(Instr.sliceAt 38 (.slice (some ⟨blk,off,none⟩) (t.length+2) ca) (some (.int .i64 (a:Int))) (some (.int .i64 ((a:Int)+4))) none).run Tryz.prog w=.ok (.slice (some ⟨blk,off+a,none⟩) 4 (ca-a)) w:=by
     intro w
     have:=run_part blk off (t.length+2) ca a (a+4) (by omega) (by omega) w
     rw[show a+4-a=4 from by omega,if_neg (show ¬ca=a by omega)] at this
     exact_mod_cast this
    obtain⟨x0,x1,x2,x3,hx4⟩:∃ x0 x1 x2 x3,((111 :: k :: t).drop a).take 4=[x0,x1,x2,x3]:=by
     have:(((111 :: k :: t).drop a).take 4).length=4:=by simp;omega
     match h:((111 :: k :: t).drop a).take 4,this with
     |[x0,x1,x2,x3],_=>exact⟨x0,x1,x2,x3,rfl⟩
    have hB4:Bytes w (some ⟨blk,off+a,none⟩) [x0,x1,x2,x3]:=by
     have h1:=(H.o.drop a).take 4
     have e:(⟨blk,off,none⟩:Addr).add a=⟨blk,off+a,none⟩:=by unfold Addr.add;split<;>simp_all
     rwa [e,hx4] at h1
    have HX4:=Hm (And.intro hx4 hB4)
    clear hx4 hB4
    have hsl2H:=Hm hsl2
    clear hsl2
    go_wp2_with (first
      |(at_builtin;refine wpList_append_empty rfl (.tmp 50) (.tmp 55) 38 rfl w4.heap.size 5 i0 (.int .u8 0) 1 Tryz.underlying38 HI.o.1 HI.o.2.1 HI.o.2.2.1 HI.o.2.2.2 rfl (some ⟨w4.heap.size,0,none⟩) rfl HO0.o (some ⟨blk,off1,none⟩) n (ca-(a+4)) (body.map byteV) ?q3 ?x0 (HT.o _ ho1) ?x1 ?x2 ?x3 ?x4))
    case q3=>rfl
    case x0=>simp[HBL.o]
    case x1=>omega
    case x2=>unfold maxLen;omega
    case x3=>simp
    case x4 =>
      intro v5 w5 hb5 ho5 g kk he
      have HB5:Hd (Below w4.heap.size w4 w5):=⟨((Below.refl w4.heap.size w4).alloc (Nat.le_refl _) (.cells #[] 5)).trans (hb5.mono (by simp))⟩
      have HB6:Hd (Below w.heap.size w w5):=⟨HB3.o.trans (HB5.o.mono HB3.o.size)⟩
      have HO5:=Hm ho5
      subst he
      clear hb5 ho5 c0 c1 hsl1
      have hsl2:=hsl2H.o
      have HO5row:Hd (Bytes w5.drew (some ⟨g,0,none⟩) body):=⟨by
       obtain⟨A',c',hv,hrow,_⟩:=own_row HO5.o
       simp only[Value.slice.injEq] at hv
       obtain⟨rfl,_,rfl⟩:=hv
       exact hrow⟩
      obtain⟨arr,harr4⟩:∃ arr,((four (csum (k :: body))).map byteV).toArray=arr:=⟨_,rfl⟩
      have heq:∀ w:World,(Op.equalIn 10000 232 (.agg arr) (.agg #[.int .u8 x0.toNat,.int .u8 x1.toNat,.int .u8 x2.toNat,.int .u8 x3.toNat])).run Tryz.prog w=.ok (decide (four (csum (k :: body))=[x0,x1,x2,x3])) w:=by
       intro w
       rw[←harr4]
       have:=λy0 y1 y2 y3:UInt8=>eq4 (y0.toNat:Int) y1.toNat y2.toNat y3.toNat x0.toNat x1.toNat x2.toNat x3.toNat w
       simp only[four,List.map_cons,List.map_nil,byteV]
       rw[this]
       congr 1
       rw[Bool.eq_iff_iff]
       simp[←UInt8.toNat_inj]
       omega
      obtain⟨bq,hbq⟩:∃ bq,decide (four (csum (k :: body))=[x0,x1,x2,x3])=bq:=⟨_,rfl⟩
      rw[hbq] at heq
      have HBQ:=Hm hbq
      have HEQ:=Hm heq
      have HAR:=Hm harr4
      clear hbq heq harr4
      go_wp2_with fail
      have d1:w5.cell? ⟨blk,off+1,none⟩=some (.int .u8 (k.toNat:Int)):=by
       obtain⟨b',o',e,h1⟩:=(H.o.below HB6.o).at_ 1 (by simp)
       simp only[Option.some.injEq,Addr.mk.injEq,and_true] at e
       obtain⟨rfl,rfl⟩:=e
       exact h1
      have dx:∀ (j:Nat) (hj:j < 4),w5.cell? ⟨blk,off+a+j,none⟩=some (.int .u8 (([x0,x1,x2,x3]:List UInt8)[j].toNat:Int)):=by
       intro j hj
       obtain⟨b',o',e,h1⟩:=(HX4.o.2.below HB6.o).at_ j hj
       simp only[Option.some.injEq,Addr.mk.injEq,and_true] at e
       obtain⟨rfl,rfl⟩:=e
       exact h1
      have e0:=dx 0 (by omega)
      have e1:=dx 1 (by omega)
      have e2:=dx 2 (by omega)
      have e3:=dx 3 (by omega)
      simp only[Nat.add_zero,List.getElem_cons_zero,List.getElem_cons_succ] at e0 e1 e2 e3
      clear dx
      have h1lt:(1:Int) < (t.length:Int)+2:=by omega
      have harr:=run_arr4
      have hw4:IntKind.i64.wrap ((a:Int)+4)=(a:Int)+4:=by
       have:(a:Int)≤12:=ha12
       simp[IntKind.wrap,IntKind.bits,IntKind.signed];omega
      refine rgn [.rd 0,.rd 1,.rd 2,.rd 3,.rd 5,.rd 6,.rd 7,.rd 8,.rd 9,.rd 10,.rd 11,.hv 4 [5,6,7,8,9,10,11],.rd 12] (n:=75) rfl ?_
      iterate 11 (refine line_rd rfl (λK hK=>?_);go_simp;refine hK _ ?_;clear hK K)
      refine line_hv rfl ?_
      go_wp2_with fail
      have hsum:=sum4 k (some ⟨g,0,none⟩) kk body w5.drew HO5row.o (by rw[HBL.o];omega)
      rw[HBL.o] at hsum
      rw[HAR.o] at hsum
      refine hsum.mono ?_
      clear hsum
      rintro e w6 ⟨rfl,hb6⟩
      have HB7:=Hm (below_undrew hb6)
      clear hb6
      have f1:w6.cell? ⟨blk,off+1,none⟩=some (.int .u8 (k.toNat:Int)):=(HB7.o.cell (p:=⟨blk,off+1,none⟩) (World.block_lt_of_cell? w5 _ d1)).trans d1
      have g0:=(HB7.o.cell (p:=⟨blk,off+a,none⟩) (World.block_lt_of_cell? w5 _ e0)).trans e0
      have g1:=(HB7.o.cell (p:=⟨blk,off+a+1,none⟩) (World.block_lt_of_cell? w5 _ e1)).trans e1
      have g2:=(HB7.o.cell (p:=⟨blk,off+a+2,none⟩) (World.block_lt_of_cell? w5 _ e2)).trans e2
      have g3:=(HB7.o.cell (p:=⟨blk,off+a+3,none⟩) (World.block_lt_of_cell? w5 _ e3)).trans e3
      clear d1 e0 e1 e2 e3
      go_wp2_with fail
      refine⟨?_,?_⟩
      ·simp only[Again,slotOf]
       go_simp
      have heq:=HEQ.o
      refine line_rd rfl (λK hK=>?_);go_simp;refine hK _ ?_;clear hK K
      unfold Line
      cases bq
      ·go_wp2_with fail
       refine bodyPost_ret (v:=.tuple #[.int .u8 0,.slice none 0 0,.int .i64 0,.int .i64 (6:Nat)]) (by simp[results,Tryz.results93,go_sem]) rfl ?_
       refine HErr.o 6 _ ?_ ((HB6.o.trans (HB7.o.mono HB6.o.size)))
       have h1:=of_decide_eq_false HBQ.o
       rw[HBody.o,←HX4.o.1] at h1
       rw[HF.o,if_neg (by simp),if_neg HN.o,if_neg HZ.o,if_pos h1]
      ·go_wp2_with fail
       refine bodyPost_ret (v:=.tuple #[.int .u8 k.toNat,.slice (some ⟨g,0,none⟩) n kk,.int .i64 ((a:Int)+4+(n:Int)),.int .i64 (0:Nat)]) (by simp[results,Tryz.results93,go_sem]) rfl ?_
       have h1:=of_decide_eq_true HBQ.o
       rw[HBody.o,←HX4.o.1] at h1
       have hft:takeF (111 :: k :: t)=⟨k,body,a+4+n,0⟩:=by
        rw[HF.o,HBody.o,if_neg (by simp),if_neg HN.o,if_neg HZ.o,if_neg (by simpa using h1)]
       unfold TakePost
       rw[hft]
       refine⟨HB6.o.trans (HB7.o.mono HB6.o.size),(.slice (some ⟨g,0,none⟩) n kk),by simp[byteV],?_⟩
       unfold OwnB
       rw[HBL.o]
       exact own_base (own_below HO5.o HB7.o) HB3.o.size
 ·have hc':¬(c:Int)=0:=by omega
  have HC:=Hm hc
  clear hc
  go_wp2_with fail
  refine(code_rd p r c w3 HS.o.rd).mono ?_
  rintro e w4 ⟨rfl,rfl⟩
  go_wp2
  refine bodyPost_ret (v:=.tuple #[.int .u8 0,.slice none 0 0,.int .i64 0,.int .i64 c]) (by simp[results,Tryz.results93,go_sem]) rfl ?_
  exact HErr.o c _ (by rw[HF.o];simp[HC.o]) HB3.o
theorem take_any (A:Option Addr) (ca:Nat) (b:List UInt8) (w:World) (h:Bytes w A b) (hl:b.length≤10000000) (hca:b.length≤ca):Calls Tryz.prog 93 #[.slice A b.length ca] w (TakePost w b):=by
 match b,h,hl,hca with
 |[],h,_,_=>exact take_short A ca [] w (by simp)
 |[x],h,_,_=>exact take_short A ca [x] w (by simp)
 |m :: k :: t,h,hl,hca =>
  obtain⟨blk,off,rfl,-⟩:=h.at_ 0 (by simp)
  simp only[List.length_cons] at hl hca⊢
  by_cases hm:m=111
  ·subst hm
   cases t with
   |nil=>exact take_two blk off ca k w h hca
   |cons x t=>exact take_main blk off ca k (x :: t) w h (by omega) hca (by simp)
  ·exact take_magic blk off ca m k t w h hm
section
variable {P:Program} {w:World} {ops:Array Oper} {rest:List Oper} {o:Oper} {a:Act} {Q:Exit→Act→World→Prop}
theorem run_append_emptyN (t ty e:TypeId) (base:Nat) (i:TypeInfo) (z:Value) (size bytes:Nat) (ht:P.underlying t=some (.slice e)) (hi:P.info? e=some i) (hz:i.zero=some z)
  (hsize:i.size=size) (hby:i.bytes=bytes) (hzs:z.cells.size=size) (hsz:0 < size) (B:Option Addr) (hown:w.ownsRow base e size (.slice B 0 0) 0 [])
  (A:Option Addr) (m c:Nat) (news:List Value) (hl:news.length=m*size) (hnews:Row w A news)
  (hbytes:m*bytes≤140737488355328) (h63:m≤maxLen) (hbase:base≤w.heap.size) :
  ∃ v' w',(Builtin.append_ #[t,t] ty #[.slice B 0 0,.slice A m c]).run P w=.ok v' w'∧Below w.heap.size w w'∧w'.ownsRow base e size v' m news:=by
 rcases Nat.eq_zero_or_pos m with rfl|hm
 ·obtain rfl:news=[]:=List.eq_nil_of_length_eq_zero (by rw[hl,Nat.zero_mul])
  refine⟨_,_,?_,Below.refl _ _,hown⟩
  cases A<;>cases B<;>simp[Builtin.append_,run_underlying ht,sizeOf,typeInfo,hi,Builtin.lenOf,Builtin.firstCells,loadCells,loadCellsFrom,storeCells]
 ·obtain⟨b,off,rfl,_⟩:=hnews 0 (by rw[hl];exact Nat.mul_pos hm hsz)
  have hn':∀ j u,news[j]?=some u→w.cell? ((⟨b,off,none⟩:Addr).add j)=some u:=by
   intro j u hu
   obtain⟨hj,rfl⟩:=List.getElem?_eq_some_iff.1 hu
   obtain⟨b',off',e',hc⟩:=hnews j hj
   simp only[Option.some.injEq,Addr.mk.injEq,and_true] at e'
   obtain⟨rfl,rfl⟩:=e'
   rw[show (⟨b,off,none⟩:Addr).add j=⟨b,off+j,none⟩ from by unfold Addr.add;split<;>simp_all]
   exact hc
  have hge:=grownCap_ge w m 0 e
  have hcm:grownCap w m 0 e≤maxLen:=grownCap_le_maxLen w m 0 e h63
  have hfin:∀ cs:Array Value,cs=news.toArray++Builtin.zeroCells z.cells (grownCap w m 0 e-m) →
    (w.drew.alloc (.cells cs e)).ownsRow base e size (.slice (some ⟨w.heap.size,0,none⟩) m (grownCap w m 0 e)) m news:=by
   rintro cs rfl
   refine⟨hl,.inr ⟨w.heap.size,_,_,rfl,hbase,heap_alloc_new w.drew _,hge,hcm,?_,?_⟩⟩
   ·simp only[Array.size_append,List.size_toArray,size_zeroCells,hzs,hl]
    rw[←Nat.add_mul]
    congr 1
    omega
   ·simp only[Array.toList_append,←hl]
    exact List.take_left
  have hbel:∀ ob,Below w.heap.size w (w.drew.alloc ob):=λob=>⟨rfl,rfl,rfl,by simp,λk hk=>heap_old w.drew ob k hk⟩
  have hmb:(m:Int)≤9223372036854775807:=by simp only[maxLen] at h63;omega
  cases B with
  |none =>
   have hr:=run_append_nil (P:=P) w t ty e i z ht hi hz ⟨b,off,none⟩ m c news (by rw[hsize];exact hl) hn' hm hmb (by rw[hby];omega)
   exact⟨_,_,hr,hbel _,hfin _ rfl⟩
  |some b0 =>
   have hr:=run_append_grow (P:=P) w t ty e i z ht hi hz b0 0 0 [] (by simp) (by simp) ⟨b,off,none⟩ m c news (by rw[hsize];exact hl) hn' (by omega) (by simpa using hmb) (by
    rw[Nat.zero_add,nextslicecap_zero hm,hby]
    omega)
   simp only[Nat.zero_add] at hr
   exact⟨_,_,hr,hbel _,hfin _ (by simp)⟩
theorem wpList_append_emptyN (hgd:o.guard=none) (s x:Operand) (t:TypeId) (ho:o.op=.call { callee:=.builtin .append,args:=#[s,x],argTypes:=#[t,t] })
  (base:Nat) (e:TypeId) (i:TypeInfo) (z:Value) (size bytes:Nat) (ht:P.underlying t=some (.slice e)) (hi:P.info? e=some i) (hz:i.zero=some z)
  (hsize:i.size=size) (hby:i.bytes=bytes) (hzs:z.cells.size=size) (hsz:0 < size)
  (B:Option Addr) (hs:a.eval s=.slice B 0 0) (hown:w.ownsRow base e size (.slice B 0 0) 0 [])
  (A:Option Addr) (m c:Nat) (news:List Value) (hx:a.eval x=.slice A m c) (hl:news.length=m*size) (hnews:Row w A news)
  (hbytes:m*bytes≤140737488355328) (h63:m≤maxLen) (hbase:base≤w.heap.size)
  (h:∀ v' w',Below w.heap.size w w'→w'.ownsRow base e size v' m news→wpList P ops Q rest (a.put o.dst v') w'):wpList P ops Q (o :: rest) a w:=by
 refine wpList_plain hgd λK hK=>?_
 obtain⟨v',w',hrun,h1,h2⟩:=run_append_emptyN (P:=P) (w:=w) t o.type e base i z size bytes ht hi hz hsize hby hzs hsz B hown A m c news hl hnews hbytes h63 hbase
 unfold Oper.wp
 simp[execOp,ho,resolve,invoke,builtin,hs,hx,hrun,Result.andThen]
 exact hK _ _ (h _ _ h1 h2)
end
abbrev Bel (w w':World):Prop:=Below w.heap.size w w'
section
variable {w w1 w2:World}
theorem bR (w:World):Bel w w:=Below.refl _ _
theorem bA (h:Bel w w1) (o:Obj):Bel w (w1.alloc o):=Below.alloc h h.size _
theorem bD (h:Bel w w1):Bel w w1.drew:=h.drew
theorem bN (h:Bel w w1) (n:Nat):Bel w (w1.drewN n):=⟨h.os,h.tape,h.output,h.size,h.block⟩
theorem bU (h:Bel w1.drew w2):Bel w1 w2:=below_undrew h
theorem bUN {n:Nat} (h:Bel (w1.drewN n) w2):Bel w1 w2:=⟨h.os,h.tape,h.output,h.size,h.block⟩
theorem bT (h:Bel w w1) (k:Bel w1 w2):Bel w w2:=h.trans (k.mono h.size)
theorem bC (h:Bel w w1) {p:Nat} (hp:w.heap.size≤p) (k:Nat) (v:Value):Bel w (w1.setCell ⟨p,k,none⟩ v):=Below.setCell h hp v
theorem bG (h:Bel w w1) {row:Option Nat} (hg:w1.grownBy w2 row) (hr:∀ k,row=some k→w.heap.size≤k):Bel w w2:=h.grown hg h.size hr
theorem bUA {o:Obj} (h:Bel (w1.alloc o) w2):Bel w1 w2:=bT (bA (bR w1) o) h
theorem bCell (h:Bel w w1) {b k:Nat} {v:Value} (hc:w.cell? ⟨b,k,none⟩=some v):w1.cell? ⟨b,k,none⟩=some v :=
 (h.cell (p:=⟨b,k,none⟩) (World.block_lt_of_cell? w _ hc)).trans hc
theorem bHeap (h:Bel w w1) {b:Nat} {o:Obj} (hc:w.heap[b]?=some o):w1.heap[b]?=some o:=by
 have hb:b < w.heap.size:=(Array.getElem?_eq_some_iff.1 hc).1
 rw[h.block b hb];exact hc
theorem bFree (h:Bel w w1) {b k:Nat} {v:Value} (hc:w.cell? ⟨b,k,none⟩=some v) (hf:w.frozen? ⟨b,k,none⟩=false):w1.frozen? ⟨b,k,none⟩=false :=
 (h.frozen (p:=⟨b,k,none⟩) (World.block_lt_of_cell? w _ hc)).trans hf
end
theorem bcell {W w1:World} (hb:Bel W w1):(∀ b o,b < W.heap.size→w1.cell? ⟨b,o,none⟩=W.cell? ⟨b,o,none⟩)∧(∀ b o,b < W.heap.size→w1.frozen? ⟨b,o,none⟩=W.frozen? ⟨b,o,none⟩) :=
 ⟨λb o h=>hb.cell (p:=⟨b,o,none⟩) h,λb o h=>hb.frozen (p:=⟨b,o,none⟩) h⟩
def EI (e k by_:Nat) (z:Value):Prop:=∃ i,Tryz.prog.info? e=some i∧i.zero=some z∧i.size=k∧i.bytes=by_∧z.cells.size=k∧0 < k∧0 < by_
theorem EI.mk {e k by_:Nat} {z:Value} (h:(Tryz.prog.info? e).map (λi=>(i.zero,i.size,i.bytes))=some (some z,k,by_)) (hz:z.cells.size=k) (hk:0 < k) (hb:0 < by_):EI e k by_ z:=by
 obtain⟨i,hi,h0,h1,h2⟩:=info_parts h
 exact⟨i,hi,h0,h1,h2,hz,hk,hb⟩
theorem iByte:EI 5 1 1 (.int .u8 0):=EI.mk infoByte rfl (by omega) (by omega)
theorem iInt:EI 3 1 8 (.int .i64 0):=EI.mk (by kernel_rfl) rfl (by omega) (by omega)
section
variable {w:World} {ops:Array Oper} {rest:List Oper} {o:Oper} {a:Act} {Q:Exit→Act→World→Prop}
theorem app {e k by_:Nat} {z:Value} (hI:EI e k by_ z) {t:TypeId} (ht:Tryz.prog.underlying t=some (.slice e)) (hgd:o.guard=none) (s x:Operand) (ho:o.op=.call { callee:=.builtin .append,args:=#[s,x],argTypes:=#[t,t] })
  {base:Nat} {v:Value} {n:Nat} {xs:List Value} (hs:a.eval s=v) (hown:w.ownsRow base e k v n xs) (hbase:base≤w.heap.size)
  {A:Option Addr} {m c:Nat} {news:List Value} (hx:a.eval x=.slice A m c) (hnews:Row w A news) (hl:news.length=m*k) (h1:∀ u∈news,u.oneCell'=true) (hb:(n+m)*by_≤140737488355328)
  (h:∀ v' w',w'.ownsRow base e k v' (n+m) (xs++news)→w.grownBy w' v.ownBlock→wpList Tryz.prog ops Q rest (a.put o.dst v') w'):wpList Tryz.prog ops Q (o :: rest) a w:=by
 obtain⟨i,hi,hz,hk,hby,hzs,hk0,hb0⟩:=hI
 have h63:n+m≤maxLen:=by
  have:(n+m)*1≤(n+m)*by_:=Nat.mul_le_mul_left _ hb0
  unfold maxLen;omega
 cases A with
 |none =>
  have hm:m=0:=by
   rcases Nat.eq_zero_or_pos m with h0|h0
   ·exact h0
   ·have hlen:0 < news.length:=by rw[hl];exact Nat.mul_pos h0 hk0
    obtain⟨b,off,e',_⟩:=hnews 0 hlen
    cases e'
  subst hm
  obtain rfl:news=[]:=List.eq_nil_of_length_eq_zero (by simpa using hl)
  refine wpList_plain hgd λK hK=>?_
  exact wp_append_nil s x t ho base e i k ht hi v n xs hs hown c hx K (hK _ _ (h _ _ (by simpa using hown) ⟨rfl,rfl,rfl,Nat.le_refl _,λ_ _ _=>rfl⟩))
 |some ad =>
  refine wpList_append_own w hgd s x t ho base e i z k by_ ht hi hz hk hby hzs hk0 v n xs hs hown ad m c news hx hl ?_ h1 h63 hb hbase λv' w' h1 h2 _=>h v' w' h1 h2
  intro j u hu
  obtain⟨hj,rfl⟩:=List.getElem?_eq_some_iff.1 hu
  obtain⟨b',off',e',hc⟩:=hnews j hj
  simp only[Option.some.injEq] at e'
  subst e'
  rw[show (⟨b',off',none⟩:Addr).add j=⟨b',off'+j,none⟩ from by unfold Addr.add;split<;>simp_all]
  exact hc
theorem app0 {e k by_:Nat} {z:Value} (hI:EI e k by_ z) {t:TypeId} (ht:Tryz.prog.underlying t=some (.slice e)) (hgd:o.guard=none) (s x:Operand) (ho:o.op=.call { callee:=.builtin .append,args:=#[s,x],argTypes:=#[t,t] })
  {base:Nat} {B:Option Addr} (hs:a.eval s=.slice B 0 0) (hown:w.ownsRow base e k (.slice B 0 0) 0 []) (hbase:base≤w.heap.size)
  {A:Option Addr} {m c:Nat} {news:List Value} (hx:a.eval x=.slice A m c) (hnews:Row w A news) (hl:news.length=m*k) (hb:m*by_≤140737488355328)
  (h:∀ v' w',Bel w w'→w'.ownsRow base e k v' m news→wpList Tryz.prog ops Q rest (a.put o.dst v') w'):wpList Tryz.prog ops Q (o :: rest) a w:=by
 obtain⟨i,hi,hz,hk,hby,hzs,hk0,hb0⟩:=hI
 have h63:m≤maxLen:=by
  have:m*1≤m*by_:=Nat.mul_le_mul_left _ hb0
  unfold maxLen;omega
 exact wpList_append_emptyN hgd s x t ho base e i z k by_ ht hi hz hk hby hzs hk0 B hs hown A m c news hx hl hnews hb h63 hbase h
end
theorem own_none (w:World) (base e k:Nat) (c:Nat) (hc:c=0):w.ownsRow base e k (.slice none 0 c) 0 []:=by subst hc;exact⟨by simp,.inl ⟨rfl,rfl⟩⟩
theorem own_empty (w:World) (base e k p:Nat) (hp:p=w.heap.size) (hb:base≤w.heap.size):(w.alloc (.cells #[] e)).ownsRow base e k (.slice (some ⟨p,0,none⟩) 0 0) 0 []:=by
 subst hp
 exact⟨by simp,.inr ⟨w.heap.size,0,#[],rfl,hb,heap_new _ _,Nat.le_refl _,Nat.zero_le _,by simp,by simp⟩⟩
def Ints (w:World) (A:Option Addr) (l:List Int):Prop:=Row w A (l.map (Value.int .i64))
def OwnI (w:World) (base:Nat) (v:Value) (l:List Int):Prop:=w.ownsRow base 3 1 v l.length (l.map (Value.int .i64))
theorem own_lit (w:World) (base:Nat) (l:List Int) (n p:Nat) (hp:p=w.heap.size) (hb:base≤w.heap.size) (hn:l.length=n) (hm:n≤maxLen):OwnI (w.alloc (.cells (l.map (Value.int .i64)).toArray 3)) base (.slice (some ⟨p,0,none⟩) n n) l:=by
 subst hn hp
 exact⟨by simp,.inr ⟨w.heap.size,l.length,(l.map (Value.int .i64)).toArray,rfl,hb,heap_new _ _,Nat.le_refl _,hm,by simp,by rw[Nat.mul_one,List.take_of_length_le (by simp)]⟩⟩
theorem ints_one {l:List Int}:∀ u∈l.map (Value.int .i64),u.oneCell'=true:=by
 intro u hu
 obtain⟨c,_,rfl⟩:=List.mem_map.1 hu
 rfl
theorem all_ints {k:IntKind} {w:World} {ok:Nat→Prop}:∀ {l:List Int} {vs:List Value},(Kd.int k).All w ok l vs→vs=l.map (Value.int k)∧∀ n∈l,(Lit.int k n).wf=true
 |[],vs,h=>⟨h,λn hn=>by cases hn⟩
 |x :: xs,vs,⟨cs,rest,e,⟨h1,h2⟩,h3⟩=>by
  obtain⟨h4,h5⟩:=all_ints h3
  refine⟨by rw[e,h1,h4];rfl,λn hn=>?_⟩
  rcases List.mem_cons.1 hn with rfl|hn
  ·exact h2
  ·exact h5 n hn
theorem mk_ints {k:IntKind} {w:World} {ok:Nat→Prop}:∀ {l:List Int},(∀ n∈l,(Lit.int k n).wf=true)→(Kd.int k).All w ok l (l.map (Value.int k))
 |[],_=>rfl
 |x :: xs,h=>⟨[_],_,rfl,⟨rfl,h x (by simp)⟩,mk_ints λn hn=>h n (by simp[hn])⟩
theorem ski {w:World} {ok:Nat→Prop} {l:List Int} {v:Value} (h:Kd.SK kI w ok l v):∃ A c,v=.slice A l.length c∧l.length≤c∧c≤maxLen∧Ints w A l∧(∀ n∈l,(Lit.int .i64 n).wf=true)∧(0 < l.length→∀ a,A=some a→ok a.block):=by
 obtain⟨A,c,vs,rfl,h2,h3,h4,h5⟩:=h
 obtain⟨rfl,h6⟩:=all_ints h5
 refine⟨A,c,rfl,h2,h3,h4.row,h6,λh0 a ha=>?_⟩
 obtain⟨b,off,e,hk,_⟩:=h4 0 (by simpa using h0)
 rw[ha] at e
 cases e
 exact hk
end Go.Proofs.YtjkgligohegaeaaGreatDoor
