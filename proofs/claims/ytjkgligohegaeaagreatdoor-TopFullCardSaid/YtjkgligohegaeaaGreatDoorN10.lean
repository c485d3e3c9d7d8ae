/- Lemmas of the row. -/
import Derived.Test.YtjkgligohegaeaaGreatDoorN09
set_option linter.all false
set_option maxRecDepth 20000
set_option maxHeartbeats 12800000
namespace Go.Proofs.YtjkgligohegaeaaGreatDoor
open Go.RowKit Go.Sort
def copied (l:List PairV) (to from_:Int):List PairV:=if to=from_ then l else l.filter (λp=>decide (p.l≠to))++(l.filter (λp=>decide (p.l=from_))).map (λp=>⟨p.v,to⟩)
def moved (l:List PairV) (to from_:Int):List PairV:=if to=from_ then l else l.filter (λp=>decide (p.v≠to))++(l.filter (λp=>decide (p.v=from_))).map (λp=>⟨to,p.l⟩)
def given (l:List PairV) (v place:Int):List PairV:=l.filter (λp=>decide (p.v≠v∧p.l≠place))++[⟨v,place⟩]
theorem nodup_of {l:List PairV} (h:l.Pairwise PLt):l.Nodup:=h.imp λh e=>by subst e;unfold PLt at h;omega
theorem nodup_map {f:PairV→PairV}:∀ {l:List PairV},(∀ p∈l,∀ q∈l,f p=f q→p=q)→l.Nodup→(l.map f).Nodup
 |[],_,_=>by simp
 |x :: r,hf,h=>by
  rw[List.nodup_cons] at h
  rw[List.map_cons,List.nodup_cons]
  refine⟨λhm=>?_,nodup_map (λp hp q hq=>hf p (by simp[hp]) q (by simp[hq])) h.2⟩
  obtain⟨y,hy,e⟩:=List.mem_map.1 hm
  have:=hf y (by simp[hy]) x (by simp) e
  subst this
  exact h.1 hy
theorem nodup_copied {l:List PairV} (h:l.Pairwise PLt) (to from_:Int):(l.filter (λp=>decide (p.l≠to))++(l.filter (λp=>decide (p.l=from_))).map (λp=>(⟨p.v,to⟩:PairV))).Nodup:=by
 have hn:=nodup_of h
 refine List.nodup_append.2 ⟨hn.filter _,nodup_map ?_ (hn.filter _),?_⟩
 ·rintro ⟨v,a⟩ hp ⟨v2,b⟩ hq e
  simp at hp hq e
  obtain⟨-,rfl⟩:=hp
  obtain⟨-,rfl⟩:=hq
  simp[e]
 ·rintro a ha b hb rfl
  obtain⟨y,-,rfl⟩:=List.mem_map.1 hb
  simp at ha
theorem nodup_moved {l:List PairV} (h:l.Pairwise PLt) (to from_:Int):(l.filter (λp=>decide (p.v≠to))++(l.filter (λp=>decide (p.v=from_))).map (λp=>(⟨to,p.l⟩:PairV))).Nodup:=by
 have hn:=nodup_of h
 refine List.nodup_append.2 ⟨hn.filter _,nodup_map ?_ (hn.filter _),?_⟩
 ·rintro ⟨v,a⟩ hp ⟨v2,b⟩ hq e
  simp at hp hq e
  obtain⟨-,rfl⟩:=hp
  obtain⟨-,rfl⟩:=hq
  simp[e]
 ·rintro a ha b hb rfl
  obtain⟨y,-,rfl⟩:=List.mem_map.1 hb
  simp at ha
theorem nodup_given {l:List PairV} (h:l.Pairwise PLt) (v place:Int):(given l v place).Nodup:=by
 have hn:=nodup_of h
 refine List.nodup_append.2 ⟨hn.filter _,by simp,?_⟩
 rintro a ha b hb rfl
 simp at ha hb
 subst hb
 simp at ha
theorem newP_of {w w3 w':World} {v:Value} {l:List PairV} (hb:Bel w w3) (h:NewP w3 w' v l):NewP w w' v l :=
 ⟨bT hb h.1,h.2.stay (Stays.weaken λb hb2=>Nat.le_trans hb.size hb2)⟩
theorem mapf_snoc {α:Type} (f:α→Bool) (g:α→α) (l:List α) (j:Nat) (h:j < l.length):((l.take (j+1)).filter f).map g=((l.take j).filter f).map g++(if f l[j] then [g l[j]] else []):=by
 rw[filter_snoc f l j h,List.map_append]
 by_cases h2:f l[j]=true<;>simp[h2]
theorem given_any (l:List PairV) (hd:l.Pairwise PLt) (tv tl:Int) (wf1:(Lit.int .i64 tv).wf=true) (wf2:(Lit.int .i64 tl).wf=true) (h6:l.length≤50000) (ok:Nat→Prop) (v:Value) (w:World) (hv:Kd.SK kPair w ok l v) :
  Calls Tryz.prog 203 #[v,.int .i64 tv,.int .i64 tl] w (WithPost w (given l tv tl)):=by
 have HV:=Hm hv
 obtain⟨A,c,rfl,-,-⟩:=sk_form hv
 have HD:=Hm (nodup_given hd tv tl)
 have H6:=Hm h6
 have HWf:=Hm (And.intro wf1 wf2)
 have eg:∀ args w,(callFunc 228 args).run Tryz.prog w=.ok (.enter 228 args) w:=enters_of Tryz.func228 (by kernel_rfl) rfl
 clear hv hd h6 wf1 wf2
 go_enter Tryz.func203,Tryz.ntmps203
 go_wp2_with fail
 generalize hW:((w.alloc (Obj.cells #[Value.int IntKind.i64 tv] 3)).alloc (Obj.cells #[Value.int IntKind.i64 tl] 3)).alloc (Obj.cells #[Value.int IntKind.i64 tv,Value.int IntKind.i64 tl] 119)=w3
 have hb:Bel w w3:=by rw[←hW];exact bA (bA (bA (bR w) _) _) _
 have c1:w3.cell? ⟨w.heap.size,0,none⟩=some (.int .i64 tv):=by rw[←hW];simp[go_sem]
 have c2:w3.cell? ⟨w.heap.size+1,0,none⟩=some (.int .i64 tl):=by rw[←hW];simp[go_sem]
 have hsk:Kd.SK kPair w3 (λ_=>True) [⟨tv,tl⟩] (.slice (some ⟨w.heap.size+1+1,0,none⟩) 1 1):=by
  refine⟨_,1,flat2 [⟨tv,tl⟩],rfl,Nat.le_refl _,by unfold maxLen;omega,RowIn.of ?_ (λ_ _=>trivial),mk_pairs λp hp=>?_⟩
  ·rw[←hW];have:=row_new ((w.alloc (.cells #[.int .i64 tv] 3)).alloc (.cells #[.int .i64 tl] 3)) [.int .i64 tv,.int .i64 tl] 119 (0,0);simpa [flat2,pairCells] using this
  ·simp at hp;subst hp;exact HWf.o
 have HWi:=Hm (with_any 228 #[.pointer (some ⟨w.heap.size,0,none⟩),.pointer (some ⟨w.heap.size+1,0,none⟩)] (λp=>decide (p.v≠tv∧p.l≠tl)) l [⟨tv,tl⟩] ok _ _ _ w3 (HV.o.stay (Stays.below hb)) hsk eg (λp hp w1 hb1=>keep228 _ _ tv tl p w1 (bCell hb1 c1) (bCell hb1 c2)) HD.o (by have:=H6.o;simp;omega))
 have HB:=Hm hb
 clear hW hb c1 c2 hsk
 refine HWi.o.mono ?_
 rintro e w' ⟨v',l',rfl,hN,hP,hPm⟩
 have HP:=Hm (And.intro (newP_of HB.o hN) (And.intro hP hPm))
 clear hN hP hPm
 go_wp2
 go_ret
 exact⟨v',l',rfl,HP.o.1,HP.o.2.1,HP.o.2.2⟩
theorem copied_any (l:List PairV) (hd:l.Pairwise PLt) (to from_:Int) (wf1:(Lit.int .i64 to).wf=true) (h6:l.length≤50000) (ok:Nat→Prop) (v:Value) (w:World) (hv:Kd.SK kPair w ok l v) :
  Calls Tryz.prog 201 #[v,.int .i64 to,.int .i64 from_] w (WithPost w (copied l to from_)):=by
 have HV:=Hm hv
 obtain⟨A,c,rfl,hc1,hc2⟩:=sk_form hv
 have hl9:l.length≤9223372036854775807:=by unfold maxLen at hc2;omega
 by_cases hne:to=from_
 ·subst hne
  have HC:=Hm (λ(wx:World) (hb:Bel w wx)=>clone_any l ok _ wx (hv.stay (Stays.below hb)) (by omega))
  have HD:=Hm hd
  clear hv hd h6
  go_enter Tryz.func201,Tryz.ntmps201
  go_wp2_with fail
  refine(HC.o _ (bA (bR w) _)).mono ?_
  rintro e w' ⟨v',rfl,hN⟩
  have HN:=Hm (newP_of (bA (bR w) _) hN)
  clear hN
  go_wp2
  go_ret
  exact⟨v',l,rfl,HN.o,HD.o,by simp[copied]⟩
 ·have HD:=Hm (nodup_copied hd to from_)
  have hp0:copied l to from_=l.filter (λp=>decide (p.l≠to))++(l.filter (λp=>decide (p.l=from_))).map (λp=>⟨p.v,to⟩):=by rw[copied,if_neg hne]
  have HNe:=Hm hne
  have HSk:=Hm (sk_pairs_wf hv)
  have hne':(to == from_)=false:=by simp[hne]
  have H6:=Hm h6
  have HWf:=Hm wf1
  rw[hp0]
  have eg:∀ args w,(callFunc 227 args).run Tryz.prog w=.ok (.enter 227 args) w:=enters_of Tryz.func227 (by kernel_rfl) rfl
  clear hv hd h6 wf1 hne hp0
  obtain⟨q,hq⟩:∃ q,q=w.heap.size:=⟨_,rfl⟩
  have HQ:Hd (∀ wx,Bel (w.alloc (.cells #[.int .i64 to] 3)) wx→wx.cell? ⟨q,0,none⟩=some (.int .i64 to)):=⟨λwx hb=>bCell hb (by subst hq;simp[go_sem])⟩
  have HB0:Hd (Bel w (w.alloc (.cells #[.int .i64 to] 3))):=⟨bA (bR w) _⟩
  have hq1:q < (w.alloc (.cells #[.int .i64 to] 3)).heap.size:=by subst hq;simp
  go_enter Tryz.func201,Tryz.ntmps201
  go_wp2_with fail
  rw[←hq]
  clear hq
  generalize w.alloc (.cells #[.int .i64 to] 3)=w0 at *
  go_loopw [7,17] (λv7 i wr=>∃ j:Nat,j≤l.length∧i=.int .i64 j∧Bel w0 wr∧OwnP wr w0.heap.size v7 (((l.take j).filter (λp=>decide (p.l=from_))).map (λp=>⟨p.v,to⟩))) (λ_ i _=>l.length-(intOf i).toNat)
  case atStart=>exact⟨0,Nat.zero_le _,rfl,bR _,own_none _ _ _ _ _ rfl⟩
  case round =>
   obtain⟨j,hj,rfl,hb,ho⟩:=hrel
   have HB:=Hm hb
   have HO:=Hm ho
   have hws:=HB.o.size
   have hqr:q < wr.heap.size:=by omega
   have cq:=HQ.o wr hb
   have HLj:Hd ((((l.take j).filter (λp=>decide (p.l=from_))).map (λp=>(⟨p.v,to⟩:PairV))).length≤j):=⟨by rw[List.length_map];exact Nat.le_trans (List.length_filter_le _ _) (by simp;omega)⟩
   clear hb ho
   by_cases hlt:j < l.length
   ·obtain⟨b,off,c',e,-,x0,x1⟩:=sk_pair ((HV.o.stay (Stays.below HB0.o)).stay (Stays.below HB.o)) j hlt
    simp only[Value.slice.injEq] at e
    obtain⟨rfl,-,rfl⟩:=e
    have HF:=Hm (mapf_snoc (λp:PairV=>decide (p.l=from_)) (λp=>⟨p.v,to⟩) l j hlt)
    generalize l[j]=x at *
    obtain⟨xv,xl⟩:=x
    dsimp only at x0 x1 HF
    by_cases hr:xl=from_
    ·have HF2:=HF.o
     rw[if_pos (by simpa using hr)] at HF2
     have HF':=Hm HF2
     have hr':(xl == from_)=true:=by simp[hr]
     clear HF HF2 hr
     go_wp2_with (first
      |(at_builtin;refine app iPair Tryz.underlying117 rfl (.tmp 25) (.tmp 30) rfl rfl (own_below HO.o (bA (bA (bR wr) _) _)) (show w0.heap.size≤((wr.alloc _).alloc _).heap.size by simp;omega) (A:=some ⟨wr.heap.size+1,0,none⟩) (m:=1) (c:=1) rfl (by have:=row_new (wr.alloc (.cells #[.int .i64 xv,.int .i64 xl] 119)) [.int .i64 xv,.int .i64 to] 119 (0,0);simpa using this) rfl (by simp[Value.oneCell']) (by have:=H6.o;have:=HLj.o;omega) ?_;intro v' w' ho' hg))
     have HO3:Hd (OwnP w' w0.heap.size v' (((l.take (j+1)).filter (λp=>decide (p.l=from_))).map (λp=>⟨p.v,to⟩))):=⟨by
      rw[HF'.o]
      simpa [OwnP,flat2_app,flat2,pairCells] using ho'⟩
     have HB3:=Hm (bG (bA (bA HB.o _) _) hg (λk hk=>(HO.o.lt k hk).1))
     clear ho' hg x0 x1
     go_wp2_with fail
     go_roundw
     case rel=>exact⟨j+1,by omega,by go_num,HB3.o,HO3.o⟩
     case measure=>simp[intOf];omega
    ·have HF2:=HF.o
     rw[if_neg (by simpa using hr),List.append_nil] at HF2
     have HF':=Hm HF2
     have hr':(xl == from_)=false:=by simp[hr]
     clear HF HF2 hr
     have HO2:=Hm (own_below HO.o (bA (bR wr) (.cells #[.int .i64 xv,.int .i64 xl] 119)))
     have HB2:=Hm (bA HB.o (.cells #[.int .i64 xv,.int .i64 xl] 119))
     go_wp2_with fail
     go_roundw
     case rel=>exact⟨j+1,by omega,by go_num,HB2.o,by rw[HF'.o];exact HO2.o⟩
     case measure=>simp[intOf];omega
   ·obtain rfl:j=l.length:=by omega
    rw[List.take_length] at HO HLj
    have HWm:Hd (∀ p∈(l.filter (λp=>decide (p.l=from_))).map (λp=>(⟨p.v,to⟩:PairV)),WfP p):=⟨λp hp=>by
     obtain⟨y,hy,rfl⟩:=List.mem_map.1 hp
     exact⟨(HSk.o y (List.mem_filter.1 hy).1).1,HWf.o⟩⟩
    have HV2:=Hm ((HV.o.stay (Stays.below HB0.o)).stay (Stays.below HB.o))
    have HQ2:=Hm (λ(wx:World) (hb:Bel wr wx)=>HQ.o wx (bT HB.o hb))
    have HSM:=Hm (own_sk HO.o HWm.o)
    generalize hmm:(l.filter (λp=>decide (p.l=from_))).map (λp=>(⟨p.v,to⟩:PairV))=mm at *
    obtain⟨A7,c7,rfl,-,-⟩:=sk_form HSM.o
    have HWi:=Hm (with_any 227 #[.pointer (some ⟨q,0,none⟩)] (λp=>decide (p.l≠to)) l mm ok _ _ _ wr HV2.o HSM.o eg (λp hp w1 hb1=>keep227 q to p w1 (HQ2.o w1 hb1)) HD.o (by have:=H6.o;have:=HLj.o;omega))
    go_wp2_with fail
    refine HWi.o.mono ?_
    rintro e w' ⟨v',l',rfl,hN,hP,hPm⟩
    rw[←hmm] at hPm
    have HP:=Hm (And.intro (newP_of (bT HB0.o HB.o) hN) (And.intro hP hPm))
    clear hN hP hPm
    go_wp2
    go_ret
    exact⟨v',l',rfl,HP.o.1,HP.o.2.1,HP.o.2.2⟩
theorem moved_any (l:List PairV) (hd:l.Pairwise PLt) (to from_:Int) (wf1:(Lit.int .i64 to).wf=true) (h6:l.length≤50000) (ok:Nat→Prop) (v:Value) (w:World) (hv:Kd.SK kPair w ok l v) :
  Calls Tryz.prog 204 #[v,.int .i64 to,.int .i64 from_] w (WithPost w (moved l to from_)):=by
 have HV:=Hm hv
 obtain⟨A,c,rfl,hc1,hc2⟩:=sk_form hv
 have hl9:l.length≤9223372036854775807:=by unfold maxLen at hc2;omega
 by_cases hne:to=from_
 ·subst hne
  have HC:=Hm (λ(wx:World) (hb:Bel w wx)=>clone_any l ok _ wx (hv.stay (Stays.below hb)) (by omega))
  have HD:=Hm hd
  clear hv hd h6
  go_enter Tryz.func204,Tryz.ntmps204
  go_wp2_with fail
  refine(HC.o _ (bA (bR w) _)).mono ?_
  rintro e w' ⟨v',rfl,hN⟩
  have HN:=Hm (newP_of (bA (bR w) _) hN)
  clear hN
  go_wp2
  go_ret
  exact⟨v',l,rfl,HN.o,HD.o,by simp[moved]⟩
 ·have HD:=Hm (nodup_moved hd to from_)
  have hp0:moved l to from_=l.filter (λp=>decide (p.v≠to))++(l.filter (λp=>decide (p.v=from_))).map (λp=>⟨to,p.l⟩):=by rw[moved,if_neg hne]
  have HNe:=Hm hne
  have HSk:=Hm (sk_pairs_wf hv)
  have hne':(to == from_)=false:=by simp[hne]
  have H6:=Hm h6
  have HWf:=Hm wf1
  rw[hp0]
  have eg:∀ args w,(callFunc 229 args).run Tryz.prog w=.ok (.enter 229 args) w:=enters_of Tryz.func229 (by kernel_rfl) rfl
  clear hv hd h6 wf1 hne hp0
  obtain⟨q,hq⟩:∃ q,q=w.heap.size:=⟨_,rfl⟩
  have HQ:Hd (∀ wx,Bel (w.alloc (.cells #[.int .i64 to] 3)) wx→wx.cell? ⟨q,0,none⟩=some (.int .i64 to)):=⟨λwx hb=>bCell hb (by subst hq;simp[go_sem])⟩
  have HB0:Hd (Bel w (w.alloc (.cells #[.int .i64 to] 3))):=⟨bA (bR w) _⟩
  have hq1:q < (w.alloc (.cells #[.int .i64 to] 3)).heap.size:=by subst hq;simp
  go_enter Tryz.func204,Tryz.ntmps204
  go_wp2_with fail
  rw[←hq]
  clear hq
  generalize w.alloc (.cells #[.int .i64 to] 3)=w0 at *
  go_loopw [7,17] (λv7 i wr=>∃ j:Nat,j≤l.length∧i=.int .i64 j∧Bel w0 wr∧OwnP wr w0.heap.size v7 (((l.take j).filter (λp=>decide (p.v=from_))).map (λp=>⟨to,p.l⟩))) (λ_ i _=>l.length-(intOf i).toNat)
  case atStart=>exact⟨0,Nat.zero_le _,rfl,bR _,own_none _ _ _ _ _ rfl⟩
  case round =>
   obtain⟨j,hj,rfl,hb,ho⟩:=hrel
   have HB:=Hm hb
   have HO:=Hm ho
   have hws:=HB.o.size
   have hqr:q < wr.heap.size:=by omega
   have cq:=HQ.o wr hb
   have HLj:Hd ((((l.take j).filter (λp=>decide (p.v=from_))).map (λp=>(⟨to,p.l⟩:PairV))).length≤j):=⟨by rw[List.length_map];exact Nat.le_trans (List.length_filter_le _ _) (by simp;omega)⟩
   clear hb ho
   by_cases hlt:j < l.length
   ·obtain⟨b,off,c',e,-,x0,x1⟩:=sk_pair ((HV.o.stay (Stays.below HB0.o)).stay (Stays.below HB.o)) j hlt
    simp only[Value.slice.injEq] at e
    obtain⟨rfl,-,rfl⟩:=e
    have HF:=Hm (mapf_snoc (λp:PairV=>decide (p.v=from_)) (λp=>⟨to,p.l⟩) l j hlt)
    generalize l[j]=x at *
    obtain⟨xv,xl⟩:=x
    dsimp only at x0 x1 HF
    by_cases hr:xv=from_
    ·have HF2:=HF.o
     rw[if_pos (by simpa using hr)] at HF2
     have HF':=Hm HF2
     have hr':(xv == from_)=true:=by simp[hr]
     clear HF HF2 hr
     go_wp2_with (first
      |(at_builtin;refine app iPair Tryz.underlying117 rfl (.tmp 25) (.tmp 30) rfl rfl (own_below HO.o (bA (bA (bR wr) _) _)) (show w0.heap.size≤((wr.alloc _).alloc _).heap.size by simp;omega) (A:=some ⟨wr.heap.size+1,0,none⟩) (m:=1) (c:=1) rfl (by have:=row_new (wr.alloc (.cells #[.int .i64 xv,.int .i64 xl] 119)) [.int .i64 to,.int .i64 xl] 119 (0,0);simpa using this) rfl (by simp[Value.oneCell']) (by have:=H6.o;have:=HLj.o;omega) ?_;intro v' w' ho' hg))
     have HO3:Hd (OwnP w' w0.heap.size v' (((l.take (j+1)).filter (λp=>decide (p.v=from_))).map (λp=>⟨to,p.l⟩))):=⟨by
      rw[HF'.o]
      simpa [OwnP,flat2_app,flat2,pairCells] using ho'⟩
     have HB3:=Hm (bG (bA (bA HB.o _) _) hg (λk hk=>(HO.o.lt k hk).1))
     clear ho' hg x0 x1
     go_wp2_with fail
     go_roundw
     case rel=>exact⟨j+1,by omega,by go_num,HB3.o,HO3.o⟩
     case measure=>simp[intOf];omega
    ·have HF2:=HF.o
     rw[if_neg (by simpa using hr),List.append_nil] at HF2
     have HF':=Hm HF2
     have hr':(xv == from_)=false:=by simp[hr]
     clear HF HF2 hr
     have HO2:=Hm (own_below HO.o (bA (bR wr) (.cells #[.int .i64 xv,.int .i64 xl] 119)))
     have HB2:=Hm (bA HB.o (.cells #[.int .i64 xv,.int .i64 xl] 119))
     go_wp2_with fail
     go_roundw
     case rel=>exact⟨j+1,by omega,by go_num,HB2.o,by rw[HF'.o];exact HO2.o⟩
     case measure=>simp[intOf];omega
   ·obtain rfl:j=l.length:=by omega
    rw[List.take_length] at HO HLj
    have HWm:Hd (∀ p∈(l.filter (λp=>decide (p.v=from_))).map (λp=>(⟨to,p.l⟩:PairV)),WfP p):=⟨λp hp=>by
     obtain⟨y,hy,rfl⟩:=List.mem_map.1 hp
     exact⟨HWf.o,(HSk.o y (List.mem_filter.1 hy).1).2⟩⟩
    have HV2:=Hm ((HV.o.stay (Stays.below HB0.o)).stay (Stays.below HB.o))
    have HQ2:=Hm (λ(wx:World) (hb:Bel wr wx)=>HQ.o wx (bT HB.o hb))
    have HSM:=Hm (own_sk HO.o HWm.o)
    generalize hmm:(l.filter (λp=>decide (p.v=from_))).map (λp=>(⟨to,p.l⟩:PairV))=mm at *
    obtain⟨A7,c7,rfl,-,-⟩:=sk_form HSM.o
    have HWi:=Hm (with_any 229 #[.pointer (some ⟨q,0,none⟩)] (λp=>decide (p.v≠to)) l mm ok _ _ _ wr HV2.o HSM.o eg (λp hp w1 hb1=>keep229 q to p w1 (HQ2.o w1 hb1)) HD.o (by have:=H6.o;have:=HLj.o;omega))
    go_wp2_with fail
    refine HWi.o.mono ?_
    rintro e w' ⟨v',l',rfl,hN,hP,hPm⟩
    rw[←hmm] at hPm
    have HP:=Hm (And.intro (newP_of (bT HB0.o HB.o) hN) (And.intro hP hPm))
    clear hN hP hPm
    go_wp2
    go_ret
    exact⟨v',l',rfl,HP.o.1,HP.o.2.1,HP.o.2.2⟩
theorem right_any (l:List PairV) (hd:l.Pairwise PLt) (vr pl:Int) (hr:∀ p∈l,0≤p.v∧p.v < vr∧0≤p.l∧p.l < pl) (ok:Nat→Prop) (v:Value) (w:World) (hv:Kd.SK kPair w ok l v) :
  Calls Tryz.prog 136 #[v,.int .i64 vr,.int .i64 pl] w λe w'=>Bel w w'∧e=.returned (.bool true):=by
 obtain⟨A,c,rfl,hc1,hc2⟩:=sk_form hv
 have HV:=Hm hv
 have HD:=Hm hd
 have HR:=Hm hr
 have HO:=Hm order_bel
 have hl9:l.length≤9223372036854775807:=by unfold maxLen at hc2;omega
 clear hv hd hr
 go_enter Tryz.func136,Tryz.ntmps136
 go_wp2_with fail
 go_loopw [11] (λi wr=>∃ j:Nat,j≤l.length∧i=.int .i64 j∧Bel w wr) (λi _=>l.length-(intOf i).toNat)
 case atStart=>exact⟨0,Nat.zero_le _,rfl,bR _⟩
 case round =>
  obtain⟨j,hj,rfl,hb⟩:=hrel
  have HB:=Hm hb
  clear hb
  by_cases hlt:j < l.length
  ·obtain⟨b,off,c',e,-,x0,x1⟩:=sk_pair (HV.o.stay (Stays.below HB.o)) j hlt
   simp only[Value.slice.injEq] at e
   obtain⟨rfl,-,rfl⟩:=e
   have hx:=HR.o _ (List.getElem_mem hlt)
   obtain⟨x,hxe⟩:∃ x,l[j]=x:=⟨_,rfl⟩
   have HX:=Hm hxe
   rw[hxe] at x0 x1 hx
   clear hxe
   obtain⟨xv,xl⟩:=x
   dsimp only at x0 x1 hx
   obtain⟨h1,h2,h3,h4⟩:=hx
   have d1:decide (xv < 0)=false:=by simp;omega
   have d2:decide (vr≤xv)=false:=by simp;omega
   have d3:decide (xl < 0)=false:=by simp;omega
   have d4:decide (pl≤xl)=false:=by simp;omega
   rcases Nat.eq_zero_or_pos j with hj0|hj0
   ·have hj0':decide (0 < j)=false:=by simp;omega
    clear hj0
    go_wp2_with fail
    go_quiet (fail)
    go_wp2_with fail
    go_roundw
    case rel=>exact⟨j+1,by omega,by go_num,bN (bA HB.o _) _⟩
    case measure=>simp[intOf];omega
   ·obtain⟨k,hk⟩:∃ k,j=k+1:=⟨j-1,by omega⟩
    have hkl:k < l.length:=by omega
    obtain⟨b,off,c',e,-,y0,y1⟩:=sk_pair (HV.o.stay (Stays.below (bA HB.o (.cells #[.int .i64 xv,.int .i64 xl] 119)))) k hkl
    simp only[Value.slice.injEq,Option.some.injEq,Addr.mk.injEq] at e
    obtain⟨⟨rfl,rfl,-⟩,-,rfl⟩:=e
    have hw1:IntKind.i64.wrap ((j:Int)-1)=(k:Int):=by
     rw[hk];simp[IntKind.wrap,IntKind.bits,IntKind.signed];omega
    have HP:=Hm (List.pairwise_iff_getElem.1 HD.o k j hkl hlt (by omega))
    obtain⟨y,hye⟩:∃ y,l[k]=y:=⟨_,rfl⟩
    rw[hye,HX.o] at HP
    rw[hye] at y0 y1
    clear hye hk
    obtain⟨yv,yl⟩:=y
    dsimp only at y0 y1
    have hj0':decide (0 < (j:Int))=true:=by simp;omega
    have HOr:=Hm (λwx=>HO.o ⟨yv,yl⟩ ⟨xv,xl⟩ wx)
    have hr0:ordP ⟨yv,yl⟩ ⟨xv,xl⟩ < 0:=(ordP_lt _ _).2 HP.o
    obtain⟨r,hr⟩:∃ r,ordP ⟨yv,yl⟩ ⟨xv,xl⟩=r:=⟨_,rfl⟩
    rw[hr] at hr0 HOr
    have d5:decide (0≤r)=false:=by simp;omega
    clear hr
    go_wp2_with fail
    refine rgn [.rd 0,.rd 1,.rd 2,.rd 3,.rd 4,.rd 5,.rd 6,.rd 7,.rd 8,.rd 9,.rd 10,.rd 11,.rd 12,.rd 13,.rd 14,.rd 15,.rd 16,.rd 17,.rd 18,.rd 19,.rd 20,.rd 21,.rd 22,.rd 23,.rd 24,.rd 25,.rd 26,.rd 27,.rd 28,.rd 29,.hv 30 [],.rd 31,.rd 32,.rd 33] (n:=51) rfl ?_
    iterate 30 (refine line_rd rfl (λK hK=>?_);go_simp;refine hK _ ?_;clear hK K)
    refine line_hv rfl ?_
    go_wp2_with fail
    refine(HOr.o _).mono ?_
    rintro e w2 ⟨rfl,hb2⟩
    have HB2:=Hm (bU hb2)
    clear hb2
    go_wp2_with fail
    refine⟨?_,?_⟩
    ·exact trivial
    iterate 3 (refine line_rd rfl (λK hK=>?_);go_simp;refine hK _ ?_;clear hK K)
    unfold Line
    clear x0 x1 y0 y1
    go_wp2_with fail
    go_roundw
    case rel=>exact⟨j+1,by omega,by go_num,bT HB.o (bUA HB2.o)⟩
    case measure=>simp[intOf];omega
  ·obtain rfl:j=l.length:=by omega
   go_wp2
   go_ret
   exact⟨HB.o,rfl⟩
def firstC (params regs j k:Nat):Bool:=if j < params then decide ((k:Int)-regs=j) else decide (k < regs) || decide ((params:Int)≤(k:Int)-regs)
def firstTo (params regs j k:Nat):List PairV:=((List.range k).filter (firstC params regs j)).map λl:Nat=>⟨(j:Int),(l:Int)⟩
def firstL (params regs places j:Nat):List PairV:=(List.range j).flatMap λv=>firstTo params regs v places
theorem firstTo_succ (params regs j k:Nat):firstTo params regs j (k+1)=firstTo params regs j k++(if firstC params regs j k then [⟨(j:Int),(k:Int)⟩] else []):=by
 unfold firstTo
 rw[List.range_succ,List.filter_append,List.map_append]
 by_cases h:firstC params regs j k=true<;>simp[h]
theorem firstL_succ (params regs places j:Nat):firstL params regs places (j+1)=firstL params regs places j++firstTo params regs j places:=by
 unfold firstL
 rw[List.range_succ,List.flatMap_append]
 simp
theorem firstTo_len (params regs j k:Nat):(firstTo params regs j k).length≤k:=by
 unfold firstTo
 rw[List.length_map]
 exact Nat.le_trans (List.length_filter_le _ _) (by simp)
theorem firstL_len (params regs places:Nat):∀ j,(firstL params regs places j).length≤j*places
 |0=>by simp[firstL]
 |j+1=>by
  rw[firstL_succ,List.length_append,Nat.add_mul]
  have:=firstL_len params regs places j
  have:=firstTo_len params regs j places
  omega
theorem mem_firstTo {params regs j k:Nat} {p:PairV}:p∈firstTo params regs j k↔∃ l:Nat,l < k∧firstC params regs j l=true∧p=⟨(j:Int),(l:Int)⟩:=by
 unfold firstTo
 rw[List.mem_map]
 constructor
 ·rintro ⟨l,hl,rfl⟩
  rw[List.mem_filter,List.mem_range] at hl
  exact⟨l,hl.1,hl.2,rfl⟩
 ·rintro ⟨l,h1,h2,rfl⟩
  exact⟨l,List.mem_filter.2 ⟨List.mem_range.2 h1,h2⟩,rfl⟩
theorem mem_firstL {params regs places n:Nat} {p:PairV}:p∈firstL params regs places n↔∃ j l:Nat,j < n∧l < places∧firstC params regs j l=true∧p=⟨(j:Int),(l:Int)⟩:=by
 simp only[firstL,List.mem_flatMap,List.mem_range,mem_firstTo]
 constructor
 ·rintro ⟨j,h1,l,h2⟩;exact⟨j,l,h1,h2⟩
 ·rintro ⟨j,l,h1,h2⟩;exact⟨j,h1,l,h2⟩
theorem firstTo_pw (params regs j:Nat):∀ k,(firstTo params regs j k).Pairwise PLt
 |0=>by simp[firstTo]
 |k+1=>by
  rw[firstTo_succ]
  refine List.pairwise_append.2 ⟨firstTo_pw params regs j k,by split<;>simp,λa ha b hb=>?_⟩
  obtain⟨l,hl,-,rfl⟩:=mem_firstTo.1 ha
  split at hb
  ·simp at hb;subst hb;right;exact⟨rfl,by dsimp only;omega⟩
  ·simp at hb
theorem firstL_pw (params regs places:Nat):∀ n,(firstL params regs places n).Pairwise PLt
 |0=>by simp[firstL]
 |n+1=>by
  rw[firstL_succ]
  refine List.pairwise_append.2 ⟨firstL_pw params regs places n,firstTo_pw _ _ _ _,λa ha b hb=>?_⟩
  obtain⟨j,l,hj,hl,-,rfl⟩:=mem_firstL.1 ha
  obtain⟨l2,hl2,-,rfl⟩:=mem_firstTo.1 hb
  left;dsimp only;omega
theorem first_any (params vregs regs slots:Nat) (h1:params≤64) (h2:vregs≤64) (h3:regs≤64) (h4:slots≤64) (w:World) :
  Calls Tryz.prog 138 #[.int .i64 params,.int .i64 vregs,.int .i64 regs,.int .i64 slots] w λe w'=>∃ v',e=.returned v'∧NewP w w' v' (firstL params regs (regs+slots) vregs):=by
 go_enter Tryz.func138,Tryz.ntmps138
 go_wp2_with fail
 go_loopw [9,14] (λv9 i wr=>∃ j:Nat,j≤vregs∧i=.int .i64 j∧Bel w wr∧OwnP wr w.heap.size v9 (firstL params regs (regs+slots) j)) (λ_ i _=>vregs-(intOf i).toNat)
 case atStart=>exact⟨0,Nat.zero_le _,rfl,bR _,own_none _ _ _ _ _ rfl⟩
 case round =>
  obtain⟨j,hj,rfl,hb,ho⟩:=hrel
  have HB:=Hm hb
  have HO:=Hm ho
  clear hb ho
  by_cases hlt:j < vregs
  ·have hps:IntKind.i64.wrap ((regs:Int)+slots)=((regs+slots:Nat):Int):=by simp[IntKind.wrap,IntKind.bits,IntKind.signed];omega
   obtain⟨pl,hpl⟩:∃ pl,regs+slots=pl:=⟨_,rfl⟩
   rw[hpl] at HO hps
   have hpl2:pl≤128:=by omega
   have HPl:=Hm hpl
   obtain⟨L,hL⟩:∃ L,firstL params regs pl j=L:=⟨_,rfl⟩
   have HLe:Hd (L.length≤10000):=⟨by
    rw[←hL]
    have h1:=firstL_len params regs pl j
    have h2:j*pl≤64*128:=Nat.mul_le_mul (by omega) hpl2
    omega⟩
   rw[hL] at HO
   have HLL:=Hm hL
   have hsl:(regs:Int)+slots=pl:=by omega
   clear hL hpl
   go_wp2_with fail
   go_loopw [9,20] (λv9 i wr=>∃ k:Nat,k≤pl∧i=.int .i64 k∧Bel w wr∧OwnP wr w.heap.size v9 (L++firstTo params regs j k)) (λ_ i _=>pl-(intOf i).toNat)
   case atStart=>exact⟨0,Nat.zero_le _,rfl,HB.o,by simpa [firstTo] using HO.o⟩
   case round =>
    obtain⟨k,hk,rfl,hb2,ho2⟩:=hrel
    have HB2:=Hm hb2
    have HO2:=Hm ho2
    have hws:=HB2.o.size
    clear hb2 ho2
    by_cases hkt:k < pl
    ·have HS:=Hm (firstTo_succ params regs j k)
     have HF:=Hm (firstTo_len params regs j k)
     obtain⟨e,he⟩:∃ e:Int,(k:Int)-regs=e:=⟨_,rfl⟩
     have hwe:IntKind.i64.wrap ((k:Int)-regs)=e:=by rw[←he];simp[IntKind.wrap,IntKind.bits,IntKind.signed];omega
     by_cases hp:j < params
     ·by_cases ho:e=(j:Int)
      ·have HC:Hd (firstC params regs j k=true):=⟨by rw[firstC,if_pos hp,he];simp[ho]⟩
       have ho':(e == (j:Int))=true:=by simp[ho]
       clear he ho
       go_wp2_with (first
        |(at_builtin;refine app iPair Tryz.underlying117 rfl (.tmp 51) (.tmp 55) rfl rfl (own_below HO2.o (bA (bR wr) _)) (show w.heap.size≤(wr.alloc _).heap.size by simp;omega) (A:=some ⟨wr.heap.size,0,none⟩) (m:=1) (c:=1) rfl (row_new wr [.int .i64 j,.int .i64 k] 119 (0,0)) rfl (by simp[Value.oneCell']) (by have:=HLe.o;have:=HF.o;simp only[List.length_append];omega) ?_;intro v' w' ho' hg))
       have HO3:Hd (OwnP w' w.heap.size v' (L++firstTo params regs j (k+1))):=⟨by
        rw[HS.o,HC.o]
        simpa [OwnP,flat2_app,flat2,pairCells,Nat.add_assoc] using ho'⟩
       have HB3:=Hm (bG (bA HB2.o _) hg (λk hk=>(HO2.o.lt k hk).1))
       clear ho' hg
       go_wp2_with fail
       go_roundw
       case rel=>exact⟨k+1,by omega,by go_num,HB3.o,HO3.o⟩
       case measure=>simp[intOf];omega
      ·have HC:Hd (firstC params regs j k=false):=⟨by rw[firstC,if_pos hp,he];simp[ho]⟩
       have ho':(e == (j:Int))=false:=by simp[ho]
       clear he ho
       have HO3:Hd (OwnP wr w.heap.size _ (L++firstTo params regs j (k+1))):=⟨by
        rw[HS.o,HC.o]
        simpa using HO2.o⟩
       go_wp2_with fail
       go_roundw
       case rel=>exact⟨k+1,by omega,by go_num,HB2.o,HO3.o⟩
       case measure=>simp[intOf];omega
     ·by_cases hq:k < regs
      ·have HC:Hd (firstC params regs j k=true):=⟨by rw[firstC,if_neg hp,he];simp[hq]⟩
       have ho:decide (e < (params:Int))=true∨True:=.inr trivial
       clear he ho
       go_wp2_with (first
        |(at_builtin;refine app iPair Tryz.underlying117 rfl (.tmp 51) (.tmp 55) rfl rfl (own_below HO2.o (bA (bR wr) _)) (show w.heap.size≤(wr.alloc _).heap.size by simp;omega) (A:=some ⟨wr.heap.size,0,none⟩) (m:=1) (c:=1) rfl (row_new wr [.int .i64 j,.int .i64 k] 119 (0,0)) rfl (by simp[Value.oneCell']) (by have:=HLe.o;have:=HF.o;simp only[List.length_append];omega) ?_;intro v' w' ho' hg))
       have HO3:Hd (OwnP w' w.heap.size v' (L++firstTo params regs j (k+1))):=⟨by
        rw[HS.o,HC.o]
        simpa [OwnP,flat2_app,flat2,pairCells,Nat.add_assoc] using ho'⟩
       have HB3:=Hm (bG (bA HB2.o _) hg (λk hk=>(HO2.o.lt k hk).1))
       clear ho' hg
       go_wp2_with fail
       go_roundw
       case rel=>exact⟨k+1,by omega,by go_num,HB3.o,HO3.o⟩
       case measure=>simp[intOf];omega
      ·by_cases hg:(params:Int)≤e
       ·have HC:Hd (firstC params regs j k=true):=⟨by rw[firstC,if_neg hp,he];simp[hg]⟩
        clear he
        go_wp2_with (first
         |(at_builtin;refine app iPair Tryz.underlying117 rfl (.tmp 51) (.tmp 55) rfl rfl (own_below HO2.o (bA (bR wr) _)) (show w.heap.size≤(wr.alloc _).heap.size by simp;omega) (A:=some ⟨wr.heap.size,0,none⟩) (m:=1) (c:=1) rfl (row_new wr [.int .i64 j,.int .i64 k] 119 (0,0)) rfl (by simp[Value.oneCell']) (by have:=HLe.o;have:=HF.o;simp only[List.length_append];omega) ?_;intro v' w' ho' hg))
        have HO3:Hd (OwnP w' w.heap.size v' (L++firstTo params regs j (k+1))):=⟨by
         rw[HS.o,HC.o]
         simpa [OwnP,flat2_app,flat2,pairCells,Nat.add_assoc] using ho'⟩
        have HB3:=Hm (bG (bA HB2.o _) hg (λk hk=>(HO2.o.lt k hk).1))
        clear ho' hg
        go_wp2_with fail
        go_roundw
        case rel=>exact⟨k+1,by omega,by go_num,HB3.o,HO3.o⟩
        case measure=>simp[intOf];omega
       ·have HC:Hd (firstC params regs j k=false):=⟨by rw[firstC,if_neg hp,he];simp[hg,hq]⟩
        clear he
        have HO3:Hd (OwnP wr w.heap.size _ (L++firstTo params regs j (k+1))):=⟨by
         rw[HS.o,HC.o]
         simpa using HO2.o⟩
        go_wp2_with fail
        go_roundw
        case rel=>exact⟨k+1,by omega,by go_num,HB2.o,HO3.o⟩
        case measure=>simp[intOf];omega
    ·obtain rfl:k=pl:=by omega
     have HO3:Hd (OwnP wr w.heap.size _ (firstL params regs (regs+slots) (j+1))):=⟨by rw[firstL_succ,HPl.o,HLL.o];exact HO2.o⟩
     go_wp2_with fail
     go_roundw
     case rel=>exact⟨j+1,by omega,by go_num,HB2.o,HO3.o⟩
     case measure=>simp[intOf];omega
  ·obtain rfl:j=vregs:=by omega
   have HW:Hd (∀ p∈firstL params regs (regs+slots) j,WfP p):=⟨λp hp=>by
    obtain⟨a,b,ha,hb,-,rfl⟩:=mem_firstL.1 hp
    exact⟨wf64.2 (by dsimp only;omega),wf64.2 (by dsimp only;omega)⟩⟩
   go_wp2
   go_ret
   exact⟨_,rfl,HB.o,own_sk HO.o HW.o⟩
end Go.Proofs.YtjkgligohegaeaaGreatDoor
namespace Go.Proofs.YtjkgligohegaeaaGreatDoor
open Go.RowKit
def nextL (k to els:Int):List Int:=if k=1 then [to] else if k=2 then (if to=els then [to] else [to,els]) else []
def NewI (w w':World) (v:Value) (l:List Int):Prop:=∃ A c,v=.slice A l.length c∧Bel w w'∧Ints w' A l∧∀ a,A=some a→w.heap.size≤a.block
theorem next_any (k a to els:Int) (w:World) :
  Calls Tryz.prog 140 #[.agg #[.int .u8 k,.int .i64 a,.int .i64 to,.int .i64 els]] w λe w'=>∃ v,e=.returned v∧NewI w w' v (nextL k to els):=by
 by_cases h1:k=1
 ·subst h1
  go_enter Tryz.func140,Tryz.ntmps140
  go_wp2
  go_ret
  refine⟨_,rfl,_,_,rfl,bA (bA (bR _) _) _,?_,λa ha=>by cases ha;simp⟩
  have:=row_new (w.alloc (.cells #[.int .u8 1,.int .i64 a,.int .i64 to,.int .i64 els] 95)) [.int .i64 to] 3 (0,0)
  simpa [Ints,nextL] using this
 ·have h1':(k == 1)=false:=by simp[h1]
  by_cases h2:k=2
  ·subst h2
   by_cases h3:to=els
   ·subst h3
    go_enter Tryz.func140,Tryz.ntmps140
    go_wp2
    go_ret
    have e1:nextL 2 to to=[to]:=by simp[nextL]
    rw[e1]
    refine⟨_,rfl,_,_,rfl,bA (bA (bR _) _) _,?_,λa ha=>by cases ha;simp⟩
    ·have:=row_new (w.alloc (.cells #[.int .u8 2,.int .i64 a,.int .i64 to,.int .i64 to] 95)) [.int .i64 to] 3 (0,0)
     simpa [Ints,nextL] using this
   ·have h3':(to == els)=false:=by simp[h3]
    have HN:Hd (nextL 2 to els=[to,els]):=⟨by simp[nextL,h3]⟩
    rw[HN.o]
    go_enter Tryz.func140,Tryz.ntmps140
    go_wp2
    go_ret
    refine⟨_,rfl,_,_,rfl,bA (bA (bR _) _) _,?_,λa ha=>by cases ha;simp⟩
    have:=row_new (w.alloc (.cells #[.int .u8 2,.int .i64 a,.int .i64 to,.int .i64 els] 95)) [.int .i64 to,.int .i64 els] 3 (0,0)
    simpa [Ints] using this
  ·have h2':(k == 2)=false:=by simp[h2]
   have HN:Hd (nextL k to els=[]):=⟨by simp[nextL,h1,h2]⟩
   rw[HN.o]
   go_enter Tryz.func140,Tryz.ntmps140
   go_wp2
   go_ret
   exact⟨_,rfl,_,_,rfl,bA (bR _) _,Row.nil _ _,λa ha=>by cases ha⟩
theorem same_any (k op d a b n d2 a2 b2:Int) (A A2:Option Addr) (m c c2:Nat) (w:World) :
  Calls Tryz.prog 202 #[.agg #[.int .u8 k,.int .u8 op,.int .i64 d,.int .i64 a,.int .i64 b,.int .i64 n,.slice A m c],.agg #[.int .u8 k,.int .u8 op,.int .i64 d2,.int .i64 a2,.int .i64 b2,.int .i64 n,.slice A2 m c2]] w λe w'=>e=.returned (.bool true)∧Bel w w':=by
 go_enter Tryz.func202,Tryz.ntmps202
 go_wp2
 go_ret
 exact⟨rfl,bA (bA (bR _) _) _⟩
def SFine (S:PairV→Prop):Prop:=∀ p,S p→0≤p.v∧p.v < 64∧0≤p.l∧p.l < 128
def Rep (w:World) (ok:Nat→Prop) (S:PairV→Prop) (v:Value):Prop:=∃ l,Kd.SK kPair w ok l v∧l.Pairwise PLt∧∀ p,p∈l↔S p
theorem Rep.stay {w w':World} {ok ok':Nat→Prop} {S:PairV→Prop} {v:Value} (h:Rep w ok S v) (s:Stays w w' ok ok'):Rep w' ok' S v:=by
 obtain⟨l,h1,h2,h3⟩:=h
 exact⟨l,h1.stay s,h2,h3⟩
theorem rising_len:∀ (l:List PairV) (a:Int),l.Pairwise PLt→(∀ p∈l,a≤p.v*128+p.l∧0≤p.l∧p.l < 128∧p.v < 64)→a≤8192→(l.length:Int)≤8192-a
 |[],a,_,_,h=>by simp;omega
 |x :: r,a,hp,hf,h=>by
  rw[List.pairwise_cons] at hp
  have hx:=hf x (by simp)
  have:=rising_len r (x.v*128+x.l+1) hp.2 (λp hp2=>by
   have h1:=hf p (by simp[hp2])
   have h2:=hp.1 p hp2
   unfold PLt at h2
   omega) (by omega)
  simp only[List.length_cons]
  omega
theorem fine_len {S:PairV→Prop} (hS:SFine S) {l:List PairV} (h:l.Pairwise PLt) (hm:∀ p,p∈l↔S p):l.length≤8192:=by
 have:=rising_len l 0 h (λp hp=>by have:=hS p ((hm p).1 hp);omega) (by omega)
 omega
def copiedS (S:PairV→Prop) (to from_:Int):PairV→Prop:=λp=>if p.l=to then S ⟨p.v,from_⟩ else S p
def movedS (S:PairV→Prop) (to from_:Int):PairV→Prop:=λp=>if p.v=to then S ⟨from_,p.l⟩ else S p
def givenS (S:PairV→Prop) (v place:Int):PairV→Prop:=λp=>(p.v≠v∧p.l≠place∧S p)∨p=⟨v,place⟩
theorem copiedS_fine {S:PairV→Prop} (h:SFine S) (to from_:Int) (h0:0≤to) (h1:to < 128):SFine (copiedS S to from_):=by
 intro p hp
 unfold copiedS at hp
 split at hp
 ·have:=h _ hp;dsimp only at this;omega
 ·exact h _ hp
theorem movedS_fine {S:PairV→Prop} (h:SFine S) (to from_:Int) (h0:0≤to) (h1:to < 64):SFine (movedS S to from_):=by
 intro p hp
 unfold movedS at hp
 split at hp
 ·have:=h _ hp;dsimp only at this;omega
 ·exact h _ hp
theorem givenS_fine {S:PairV→Prop} (h:SFine S) (v pl:Int) (h0:0≤v) (h1:v < 64) (h2:0≤pl) (h3:pl < 128):SFine (givenS S v pl):=by
 rintro p (hp|rfl)
 ·exact h _ hp.2.2
 ·exact⟨h0,h1,h2,h3⟩
theorem mem_copied {l:List PairV} {S:PairV→Prop} (hm:∀ p,p∈l↔S p) (to from_:Int) (p:PairV):p∈copied l to from_↔copiedS S to from_ p:=by
 obtain⟨v,a⟩:=p
 unfold copied copiedS
 by_cases h:to=from_
 ·subst h
  rw[if_pos rfl,hm]
  dsimp only
  split
  ·rename_i e;rw[e]
  ·rfl
 ·rw[if_neg h]
  simp only[List.mem_append,List.mem_filter,List.mem_map,decide_eq_true_eq]
  split
  ·rename_i e
   subst e
   constructor
   ·rintro (⟨_,h2⟩|⟨⟨y1,y2⟩,⟨h3,h4⟩,h5⟩)
    ·exact absurd rfl h2
    ·dsimp only at h4 h5
     cases h5
     subst h4
     exact(hm _).1 h3
   ·intro h3
    exact .inr ⟨⟨v,from_⟩,⟨(hm _).2 h3,rfl⟩,rfl⟩
  ·rename_i e
   constructor
   ·rintro (⟨h1,_⟩|⟨⟨y1,y2⟩,⟨h3,h4⟩,h5⟩)
    ·exact(hm _).1 h1
    ·cases h5;exact absurd rfl e
   ·intro h3
    exact .inl ⟨(hm _).2 h3,e⟩
theorem mem_moved {l:List PairV} {S:PairV→Prop} (hm:∀ p,p∈l↔S p) (to from_:Int) (p:PairV):p∈moved l to from_↔movedS S to from_ p:=by
 obtain⟨v,a⟩:=p
 unfold moved movedS
 by_cases h:to=from_
 ·subst h
  rw[if_pos rfl,hm]
  dsimp only
  split
  ·rename_i e;rw[e]
  ·rfl
 ·rw[if_neg h]
  simp only[List.mem_append,List.mem_filter,List.mem_map,decide_eq_true_eq]
  split
  ·rename_i e
   subst e
   constructor
   ·rintro (⟨_,h2⟩|⟨⟨y1,y2⟩,⟨h3,h4⟩,h5⟩)
    ·exact absurd rfl h2
    ·dsimp only at h4 h5
     cases h5
     subst h4
     exact(hm _).1 h3
   ·intro h3
    exact .inr ⟨⟨from_,a⟩,⟨(hm _).2 h3,rfl⟩,rfl⟩
  ·rename_i e
   constructor
   ·rintro (⟨h1,_⟩|⟨⟨y1,y2⟩,⟨h3,h4⟩,h5⟩)
    ·exact(hm _).1 h1
    ·cases h5;exact absurd rfl e
   ·intro h3
    exact .inl ⟨(hm _).2 h3,e⟩
theorem mem_given {l:List PairV} {S:PairV→Prop} (hm:∀ p,p∈l↔S p) (v pl:Int) (p:PairV):p∈given l v pl↔givenS S v pl p:=by
 unfold given givenS
 simp only[List.mem_append,List.mem_filter,decide_eq_true_eq,List.mem_singleton,hm]
 constructor
 ·rintro (⟨h1,h2,h3⟩|h)
  ·exact .inl ⟨h2,h3,h1⟩
  ·exact .inr h
 ·rintro (⟨h1,h2,h3⟩|h)
  ·exact .inl ⟨h3,h1,h2⟩
  ·exact .inr h
def SetPost (w:World) (S:PairV→Prop) (e:Ending) (w':World):Prop:=∃ v',e=.returned v'∧Bel w w'∧Rep w' (λb=>w.heap.size≤b) S v'
theorem set_of {w w':World} {l0:List PairV} {S:PairV→Prop} {e:Ending} (h:WithPost w l0 e w') (hm:∀ p,p∈l0↔S p):SetPost w S e w':=by
 obtain⟨v',l',rfl,⟨h1,h2⟩,h3,h4⟩:=h
 exact⟨v',rfl,h1,l',h2,h3,λp=>by rw[h4.mem_iff,hm]⟩
section
variable {S:PairV→Prop} {ok:Nat→Prop} {v:Value} {w:World}
theorem copied_set (h:Rep w ok S v) (hS:SFine S) (to from_:Int) (wf1:(Lit.int .i64 to).wf=true):Calls Tryz.prog 201 #[v,.int .i64 to,.int .i64 from_] w (SetPost w (copiedS S to from_)):=by
 obtain⟨l,h1,h2,h3⟩:=h
 exact(copied_any l h2 to from_ wf1 (by have:=fine_len hS h2 h3;omega) ok v w h1).mono λe w' h=>set_of h (mem_copied h3 to from_)
theorem moved_set (h:Rep w ok S v) (hS:SFine S) (to from_:Int) (wf1:(Lit.int .i64 to).wf=true):Calls Tryz.prog 204 #[v,.int .i64 to,.int .i64 from_] w (SetPost w (movedS S to from_)):=by
 obtain⟨l,h1,h2,h3⟩:=h
 exact(moved_any l h2 to from_ wf1 (by have:=fine_len hS h2 h3;omega) ok v w h1).mono λe w' h=>set_of h (mem_moved h3 to from_)
theorem given_set (h:Rep w ok S v) (hS:SFine S) (a b:Int) (wf1:(Lit.int .i64 a).wf=true) (wf2:(Lit.int .i64 b).wf=true):Calls Tryz.prog 203 #[v,.int .i64 a,.int .i64 b] w (SetPost w (givenS S a b)):=by
 obtain⟨l,h1,h2,h3⟩:=h
 exact(given_any l h2 a b wf1 wf2 (by have:=fine_len hS h2 h3;omega) ok v w h1).mono λe w' h=>set_of h (mem_given h3 a b)
theorem has_set (h:Rep w ok S v) (hS:SFine S) (a b:Int) (hab:S ⟨a,b⟩):Calls Tryz.prog 168 #[v,.int .i64 a,.int .i64 b] w λe w'=>Bel w w'∧e=.returned (.bool true):=by
 obtain⟨l,h1,h2,h3⟩:=h
 have:=has_any l h2 a b (by have:=fine_len hS h2 h3;omega) ok v w h1
 rw[show decide ((⟨a,b⟩:PairV)∈l)=true by rw[decide_eq_true_iff,h3];exact hab] at this
 exact this
theorem within_set {S2:PairV→Prop} {ok2:Nat→Prop} {v2:Value} {l:List PairV} (h:Kd.SK kPair w ok l v) (h2:Rep w ok2 S2 v2) (hS:SFine S2) (hin:∀ p∈l,S2 p):Calls Tryz.prog 137 #[v,v2] w λe w'=>Bel w w'∧e=.returned (.bool true):=by
 obtain⟨l2,h3,h4,h5⟩:=h2
 exact within_any l l2 h4 (λp hp=>(h5 p).2 (hin p hp)) (by have:=fine_len hS h4 h5;omega) ok ok2 v v2 w h h3
end
structure PassIn (w:World) (p:Nat) (regs:Int) (S:PairV→Prop) (f:List Ins) (lv fv:Value):Prop where
 head:w.heap[p]?=some (.cells #[lv,.int .i64 regs,fv,.int .i64 0,.int .i64 0,.bool false] 264 (0,0))
 rep:Rep w (λb=>b≠p) S lv
 ins:Kd.SK kIns w (λb=>b≠p) f fv
def PassAt (w:World) (p:Nat) (regs:Int) (S:PairV→Prop) (f:List Ins):Prop:=∃ lv fv,PassIn w p regs S f lv fv
section
variable {w w':World} {p:Nat} {regs:Int} {S:PairV→Prop} {f:List Ins} {lv fv:Value}
theorem PassIn.lt (h:PassIn w p regs S f lv fv):p < w.heap.size:=(Array.getElem?_eq_some_iff.1 h.head).1
theorem PassIn.bel (h:PassIn w p regs S f lv fv) (hb:Bel w w'):PassIn w' p regs S f lv fv :=
 ⟨by rw[hb.block p h.lt];exact h.head,h.rep.stay (Stays.below hb),h.ins.stay (Stays.below hb)⟩
theorem PassIn.c0 (h:PassIn w p regs S f lv fv):w.cell? ⟨p,0,none⟩=some lv:=by unfold World.cell?;rw[h.head];rfl
theorem PassIn.c1 (h:PassIn w p regs S f lv fv):w.cell? ⟨p,1,none⟩=some (.int .i64 regs):=by unfold World.cell?;rw[h.head];rfl
theorem PassIn.c2 (h:PassIn w p regs S f lv fv):w.cell? ⟨p,2,none⟩=some fv:=by unfold World.cell?;rw[h.head];rfl
theorem PassIn.c3 (h:PassIn w p regs S f lv fv):w.cell? ⟨p,3,none⟩=some (.int .i64 0):=by unfold World.cell?;rw[h.head];rfl
theorem PassIn.c5 (h:PassIn w p regs S f lv fv):w.cell? ⟨p,5,none⟩=some (.bool false):=by unfold World.cell?;rw[h.head];rfl
theorem PassIn.free (h:PassIn w p regs S f lv fv) (k:Nat):w.frozen? ⟨p,k,none⟩=false:=by unfold World.frozen?;rw[h.head];simp
theorem PassIn.setL (h:PassIn w p regs S f lv fv) {w1:World} (hb:Bel w w1) {S':PairV→Prop} {v:Value} (hr:Rep w1 (λb=>w.heap.size≤b) S' v):PassIn (w1.setCell ⟨p,0,none⟩ v) p regs S' f v fv:=by
 have h1:=(h.bel hb).head
 have hlt:=h.lt
 have hst:Stays w1 (w1.setCell ⟨p,0,none⟩ v) (λb=>b≠p) (λb=>b≠p):=λb hbp _=>⟨hbp,heap_setCell_other w1 ⟨p,0,none⟩ b v hbp⟩
 refine⟨?_,(hr.stay (Stays.weaken (ok':=λb=>b≠p) λb hb=>by omega)).stay hst,(h.ins.stay (Stays.below hb)).stay hst⟩
 rw[Go.Joins.block_setCell h1 _]
 rfl
theorem PassIn.setF (h:PassIn w p regs S f lv fv) {f':List Ins} {v:Value} (hr:Kd.SK kIns w (λb=>b≠p) f' v):PassIn (w.setCell ⟨p,2,none⟩ v) p regs S f' lv v:=by
 have h1:=h.head
 have hst:Stays w (w.setCell ⟨p,2,none⟩ v) (λb=>b≠p) (λb=>b≠p):=λb hbp _=>⟨hbp,heap_setCell_other w ⟨p,2,none⟩ b v hbp⟩
 refine⟨?_,h.rep.stay hst,hr.stay hst⟩
 rw[Go.Joins.block_setCell h1 _]
 rfl
end
theorem use_ok (p:Nat) (regs:Int) (S:PairV→Prop) (hS:SFine S) (f:List Ins) (w:World) (h:PassAt w p regs S f) (v place at_:Int) (hv:S ⟨v,place⟩) :
  Calls Tryz.prog 172 #[.pointer (some ⟨p,0,none⟩),.int .i64 v,.int .i64 place,.int .i64 at_] w λe w'=>e=.returned (.tuple #[])∧Bel w w':=by
 obtain⟨lv,fv,h⟩:=h
 have H:=Hm (has_set h.rep hS v place hv)
 have c0:=h.c0
 clear h hS hv
 go_enter Tryz.func172,Tryz.ntmps172
 go_wp2_with fail
 refine H.o.mono ?_
 rintro e w2 ⟨hb,rfl⟩
 have HB:=Hm hb
 clear hb c0
 go_wp2
 go_end0
 exact⟨rfl,HB.o⟩
def movesS (S:PairV→Prop):List Ins→(PairV→Prop) × List Ins
 |[]=>(S,[])
 |i :: r=>if i.kind=2 then movesS (movedS S i.d i.a) r else (S,i :: r)
def sliceLen:Option Value→Nat
 |some (.slice _ n _)=>n
 |_=>0
theorem Rep.form {w:World} {ok:Nat→Prop} {S:PairV→Prop} {v:Value} (h:Rep w ok S v):∃ A n c,v=.slice A n c:=by
 obtain⟨l,h,_⟩:=h
 obtain⟨A,c,e,_⟩:=sk_form h
 exact⟨A,_,c,e⟩
theorem sk_tail {w:World} {ok:Nat→Prop} {i:Ins} {r:List Ins} {b off c:Nat} (h:Kd.SK kIns w ok (i :: r) (.slice (some ⟨b,off,none⟩) (i :: r).length c)) :
  Kd.SK kIns w ok r (.slice (if c=1 then some ⟨b,off,none⟩ else some ⟨b,off+7,none⟩) r.length (c-1)):=by
 obtain⟨A,c',vs,e,h2,h3,h4,h5⟩:=h
 simp only[Value.slice.injEq] at e
 obtain⟨rfl,-,rfl⟩:=e
 simp only[List.length_cons] at h2
 obtain⟨cs,rest,rfl,h6,h7⟩:=h5
 by_cases hc:c=1
 ·have hr:r=[]:=List.eq_nil_of_length_eq_zero (by omega)
  subst hr
  exact Kd.SK.nil _ (by omega) _
 ·rw[if_neg hc]
  refine⟨_,c-1,rest,rfl,by omega,by omega,λj hj=>?_,h7⟩
  have hl:=kIns.len h6
  have hl7:cs.length=7:=hl
  obtain⟨b',off',e,ho,hcl⟩:=h4 (7+j) (by simp;omega)
  simp only[Option.some.injEq,Addr.mk.injEq,and_true] at e
  obtain⟨rfl,rfl⟩:=e
  refine⟨b,off+7,rfl,ho,?_⟩
  rw[Nat.add_assoc,hcl]
  simp[List.getElem_append_right,hl7]
theorem moves_ok (p:Nat) (regs:Int) (S:PairV→Prop) (hS:SFine S) (f:List Ins) (hf:∀ i∈f,i.kind=2→0≤i.d∧i.d < 64) (w:World) (h:PassAt w p regs S f) :
  Calls Tryz.prog 170 #[.pointer (some ⟨p,0,none⟩)] w λe w'=>e=.returned (.tuple #[])∧w.grownBy w' (some p)∧PassAt w' p regs (movesS S f).1 (movesS S f).2∧SFine (movesS S f).1:=by
 have H:=Hm h
 have HS:=Hm hS
 have HF:=Hm hf
 clear h hS hf
 go_enter Tryz.func170,Tryz.ntmps170
 go_wp2_with fail
 go_loopw [2] (λ_ wr=>∃ S' f',SFine S'∧(∀ i∈f',i∈f)∧w.grownBy wr (some p)∧PassAt wr p regs S' f'∧movesS S' f'=movesS S f) (λ_ wr=>sliceLen (wr.cell? ⟨p,2,none⟩))
 case atStart=>exact⟨S,f,HS.o,λi hi=>hi,grownBy_refl _ _,H.o,rfl⟩
 case round =>
  obtain⟨S',f',hS',hf',hg,hp,he⟩:=hrel
  obtain⟨lv,fv,hin⟩:=hp
  have HS':=Hm hS'
  have HF':=Hm hf'
  have HG:=Hm hg
  have HI:=Hm hin
  have HE:=Hm he
  clear hS' hf' hg he
  have c0:=hin.c0
  have c2:=hin.c2
  have f0:=hin.free 0
  have f2:=hin.free 2
  clear hin
  obtain⟨A,c,rfl,hc1,hc2⟩:=sk_form HI.o.ins
  cases f' with
  |nil =>
   go_wp2
   go_end0
   have e:movesS S f=(S',[]):=HE.o.symm
   rw[e]
   exact⟨rfl,HG.o,⟨_,_,HI.o⟩,HS'.o⟩
  |cons i r =>
   obtain⟨b,off,c',v1,e,hob,hfit,hsk2,z0,z1,z2,z3,z4,z5,z6⟩:=sk_ins HI.o.ins 0 (by simp)
   simp only[Value.slice.injEq] at e
   obtain⟨rfl,-,rfl⟩:=e
   simp only[List.getElem_cons_zero,Nat.zero_mul,Nat.add_zero] at z0 z1 z2 z3 z4 z5 z6 hfit hsk2
   have hbp:b≠p:=hob
   clear z1 z4 z5 z6
   by_cases hk:i.kind=2
   ·have HM:=Hm (moved_set (HI.o.rep.stay (Stays.below (bD (bR wr)))) HS'.o i.d i.a hfit.d)
    rw[hk] at z0
    go_wp2_with fail
    refine rgn [.rd 0,.rd 1,.rd 2,.rd 3,.rd 4,.rd 5,.rd 6,.rd 7,.rd 8,.rd 9,.rd 10,.rd 11,.rd 12,.rd 13,.rd 14,.rd 15,.rd 16,.rd 17,.rd 18,.hv 19 [0],.rd 20,.rd 21,.hv 22 []] (n:=48) rfl ?_
    iterate 19 (refine line_rd rfl (λK hK=>?_);go_simp;refine hK _ ?_;clear hK K)
    refine line_hv rfl ?_
    go_wp2_with fail
    refine HM.o.mono ?_
    rintro e w2 ⟨v',rfl,hb2',hr2⟩
    obtain⟨A',n',c',rfl⟩:=hr2.form
    have hb2:=bU hb2'
    clear hb2'
    have HB2:=Hm hb2
    have HR2:=Hm hr2
    have HI3:=Hm (HI.o.setL hb2 hr2)
    clear z0 z2 z3 c0 c2 f0 f2 hb2 hr2
    have hpl:p < w2.heap.size:=(HI.o.bel HB2.o).lt
    have f0:=(HI.o.bel HB2.o).free 0
    have c0:=(HI.o.bel HB2.o).c0
    go_wp2_with fail
    refine⟨?_,?_⟩
    ·simp only[Again,slotOf]
     go_simp
    iterate 2 (refine line_rd rfl (λK hK=>?_);go_simp;refine hK _ ?_;clear hK K)
    refine line_hv rfl ?_
    go_wp2_with fail
    refine⟨?_,?_⟩
    ·exact trivial
    unfold Line
    have HB2':=HB2
    have HG3:Hd (w.grownBy (w2.setCell ⟨p,0,none⟩ (.slice A' n' c')) (some p)):=⟨grownBy_trans HG.o (grownBy_trans (grownBy_below HB2.o) (grownBy_cell w2 p 0 _))⟩
    generalize w2.setCell ⟨p,0,none⟩ (.slice A' n' c')=w3 at *
    clear hpl f0 c0 HB2 HB2' HR2
    have c2:=HI3.o.c2
    have f2:=HI3.o.free 2
    have hpl:=HI3.o.lt
    go_wp2_with fail
    have HI4:=HI3.o.setF (sk_tail HI3.o.ins)
    have hfd:=HF.o i (HF'.o i (by simp)) hk
    refine⟨⟨movedS S' i.d i.a,r,movedS_fine HS'.o _ _ hfd.1 hfd.2,λx hx=>HF'.o x (by simp[hx]),grownBy_trans HG3.o (grownBy_cell _ _ _ _),⟨_,_,HI4⟩,?_⟩,?_⟩
    ·rw[←HE.o,movesS,if_pos hk]
    ·rw[HI4.c2,HI.o.c2];simp[sliceLen]
   ·have hk':(i.kind == 2)=false:=by simp[hk]
    go_wp2
    go_end0
    have e:movesS S f=(S',i :: r):=by rw[←HE.o,movesS,if_neg hk]
    rw[e]
    exact⟨rfl,HG.o,⟨_,_,HI.o⟩,HS'.o⟩
theorem ins_spill (p:Nat) (regs:Int) (S:PairV→Prop) (hS:SFine S) (f:List Ins) (op d a b n at_:Int) (V:Value) (hV:V.oneCell'=true) (h1:0≤d) (h2:d < 64) (h3:0≤a) (h4:a < 64) (h5:0≤regs) (h6:regs≤8) (w:World) (h:PassAt w p regs S f) :
  Calls Tryz.prog 169 #[.pointer (some ⟨p,0,none⟩),.agg #[.int .u8 7,.int .u8 op,.int .i64 d,.int .i64 a,.int .i64 b,.int .i64 n,V],.int .i64 at_] w λe w'=>e=.returned (.tuple #[])∧w.grownBy w' (some p)∧PassAt w' p regs (copiedS S (regs+d) (a)) f:=by
 obtain⟨lv,fv,hin⟩:=h
 have HI:=Hm hin
 have hS':=Hm hS
 have c0:=hin.c0
 have c1:=hin.c1
 have f0:=hin.free 0
 have hpl:=hin.lt
 have hw1:IntKind.i64.wrap (regs+d)=regs+d:=by simp[IntKind.wrap,IntKind.bits,IntKind.signed];omega
 have hw2:IntKind.i64.wrap (regs+a)=regs+a:=by simp[IntKind.wrap,IntKind.bits,IntKind.signed];omega
 have HM:=Hm (λ(wx:World) (hb:Bel w wx)=>copied_set (hin.rep.stay (Stays.below hb)) hS ((regs+d)) ((a)) (wf64.2 (by omega)))
 clear hin hS
 go_enter Tryz.func169,Tryz.ntmps169
 go_wp2_with fail
 refine rgn [.rd 0,.rd 1,.rd 2,.rd 3,.rd 4,.rd 5,.rd 6,.rd 7,.rd 8,.rd 9,.rd 10,.rd 11,.rd 12,.rd 13,.hv 14 [0],.rd 15,.rd 16,.hv 17 []] (n:=141) rfl ?_
 iterate 14 (refine line_rd rfl (λK hK=>?_);go_simp;refine hK _ ?_;clear hK K)
 refine line_hv rfl ?_
 go_wp2_with fail
 refine(HM.o _ (bD (bA (bR w) _))).mono ?_
 rintro e w2 ⟨v',rfl,hb2',hr2'⟩
 obtain⟨A',n',c',rfl⟩:=hr2'.form
 have hb2:Bel w w2:=bT (bA (bR w) _) (bU hb2')
 have hr2:=hr2'.stay (Stays.weaken (ok':=λb=>w.heap.size≤b) λb hb=>Nat.le_trans (bA (bR w) _).size hb)
 have HB2:=Hm hb2
 have HI3:=Hm (HI.o.setL hb2 hr2)
 clear c0 c1 f0 hb2 hr2 hb2' hr2'
 have hpl2:p < w2.heap.size:=(HI.o.bel HB2.o).lt
 have f0:=(HI.o.bel HB2.o).free 0
 have c0:=(HI.o.bel HB2.o).c0
 go_wp2_with fail
 refine⟨?_,?_⟩
 ·simp only[Again,slotOf]
  go_simp
 iterate 2 (refine line_rd rfl (λK hK=>?_);go_simp;refine hK _ ?_;clear hK K)
 refine line_hv rfl ?_
 go_wp2_with fail
 refine⟨?_,?_⟩
 ·exact trivial
 unfold Line
 have HG4:Hd (w.grownBy (w2.setCell ⟨p,0,none⟩ (.slice A' n' c')) (some p)):=⟨grownBy_trans (grownBy_below HB2.o) (grownBy_cell w2 p 0 _)⟩
 go_wp2
 (try simp only[Exit.inBlock,Exit.then]);refine bodyPost_ret (results_none rfl _ _ _) rfl ?_
 exact⟨rfl,HG4.o,_,_,HI3.o⟩
theorem ins_fill (p:Nat) (regs:Int) (S:PairV→Prop) (hS:SFine S) (f:List Ins) (op d a b n at_:Int) (V:Value) (hV:V.oneCell'=true) (h1:0≤d) (h2:d < 64) (h3:0≤a) (h4:a < 64) (h5:0≤regs) (h6:regs≤8) (w:World) (h:PassAt w p regs S f) :
  Calls Tryz.prog 169 #[.pointer (some ⟨p,0,none⟩),.agg #[.int .u8 8,.int .u8 op,.int .i64 d,.int .i64 a,.int .i64 b,.int .i64 n,V],.int .i64 at_] w λe w'=>e=.returned (.tuple #[])∧w.grownBy w' (some p)∧PassAt w' p regs (copiedS S (d) (regs+a)) f:=by
 obtain⟨lv,fv,hin⟩:=h
 have HI:=Hm hin
 have hS':=Hm hS
 have c0:=hin.c0
 have c1:=hin.c1
 have f0:=hin.free 0
 have hpl:=hin.lt
 have hw1:IntKind.i64.wrap (regs+d)=regs+d:=by simp[IntKind.wrap,IntKind.bits,IntKind.signed];omega
 have hw2:IntKind.i64.wrap (regs+a)=regs+a:=by simp[IntKind.wrap,IntKind.bits,IntKind.signed];omega
 have HM:=Hm (λ(wx:World) (hb:Bel w wx)=>copied_set (hin.rep.stay (Stays.below hb)) hS ((d)) ((regs+a)) (wf64.2 (by omega)))
 clear hin hS
 go_enter Tryz.func169,Tryz.ntmps169
 go_wp2_with fail
 refine rgn [.rd 0,.rd 1,.rd 2,.rd 3,.rd 4,.rd 5,.rd 6,.rd 7,.rd 8,.rd 9,.rd 10,.rd 11,.rd 12,.rd 13,.hv 14 [0],.rd 15,.rd 16,.hv 17 []] (n:=141) rfl ?_
 iterate 14 (refine line_rd rfl (λK hK=>?_);go_simp;refine hK _ ?_;clear hK K)
 refine line_hv rfl ?_
 go_wp2_with fail
 refine(HM.o _ (bD (bA (bR w) _))).mono ?_
 rintro e w2 ⟨v',rfl,hb2',hr2'⟩
 obtain⟨A',n',c',rfl⟩:=hr2'.form
 have hb2:Bel w w2:=bT (bA (bR w) _) (bU hb2')
 have hr2:=hr2'.stay (Stays.weaken (ok':=λb=>w.heap.size≤b) λb hb=>Nat.le_trans (bA (bR w) _).size hb)
 have HB2:=Hm hb2
 have HI3:=Hm (HI.o.setL hb2 hr2)
 clear c0 c1 f0 hb2 hr2 hb2' hr2'
 have hpl2:p < w2.heap.size:=(HI.o.bel HB2.o).lt
 have f0:=(HI.o.bel HB2.o).free 0
 have c0:=(HI.o.bel HB2.o).c0
 go_wp2_with fail
 refine⟨?_,?_⟩
 ·simp only[Again,slotOf]
  go_simp
 iterate 2 (refine line_rd rfl (λK hK=>?_);go_simp;refine hK _ ?_;clear hK K)
 refine line_hv rfl ?_
 go_wp2_with fail
 refine⟨?_,?_⟩
 ·exact trivial
 unfold Line
 have HG4:Hd (w.grownBy (w2.setCell ⟨p,0,none⟩ (.slice A' n' c')) (some p)):=⟨grownBy_trans (grownBy_below HB2.o) (grownBy_cell w2 p 0 _)⟩
 go_wp2
 (try simp only[Exit.inBlock,Exit.then]);refine bodyPost_ret (results_none rfl _ _ _) rfl ?_
 exact⟨rfl,HG4.o,_,_,HI3.o⟩
end Go.Proofs.YtjkgligohegaeaaGreatDoor
