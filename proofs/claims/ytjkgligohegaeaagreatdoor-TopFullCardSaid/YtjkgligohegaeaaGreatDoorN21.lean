/- Lemmas of the row. -/
import Derived.Test.YtjkgligohegaeaaGreatDoorN20
set_option linter.all false
set_option maxRecDepth 20000
set_option maxHeartbeats 12800000
namespace Go.Proofs.YtjkgligohegaeaaGreatDoor
open Go.RowKit
def chd (l:List UInt8):Nat:=match l with
 |[]=>0
 |c :: _=>c.toNat
def fillI (v:Int) (r:Nat):Ins:=⟨8,0,r,v,0,0,[]⟩
def spillI (d:Int) (r:Nat):Ins:=⟨7,0,d,r,0,0,[]⟩
def fillsA:Nat→List Int→List Ins
 |_,[]=>[]
 |k,a :: r=>fillI a k :: fillsA (k+1) r
def upTo (n:Nat):List Int:=(List.range n).map λk:Nat=>(k:Int)
def nvI (r rd r1 r2:Nat) (i:Ins):List Ins :=
 if i.kind=2 then [fillI i.a r,spillI i.d r]
 else if i.kind=3 then [fillI i.a r1,fillI i.b r2,⟨i.kind,i.op,rd,r1,r2,i.n,[]⟩,spillI i.d rd]
 else if i.kind=4 then [fillI i.a r,⟨i.kind,i.op,rd,r,i.b,i.n,[]⟩,spillI i.d rd]
 else if i.kind=5 then [fillI i.a r1,fillI i.b r2,⟨i.kind,i.op,i.d,r1,r2,i.n,[]⟩]
 else fillsA 0 i.args++[⟨i.kind,i.op,rd,i.a,i.b,i.n,upTo i.args.length⟩,spillI i.d rd]
def nvIns (regs n:Nat) (i:Ins):List Ins:=nvI (n % regs) (n / 8 % regs) (n % 3) ((n+1) % 3) i
def nvL (regs:Nat):List Ins→List UInt8→List Ins
 |[],_=>[]
 |i :: r,l=>nvIns regs (chd l) i++nvL regs r l.tail
def nvBlock (regs:Nat) (b:Block) (l:List UInt8):Block :=
 if b.fin.kind=1 then ⟨nvL regs b.ins l,b.fin⟩
 else ⟨nvL regs b.ins l++[fillI b.fin.a (chd (l.drop b.ins.length) % regs)],⟨b.fin.kind,(chd (l.drop b.ins.length) % regs:Nat),b.fin.to_,b.fin.else_⟩⟩
def nvRest (b:Block) (l:List UInt8):List UInt8:=if b.fin.kind=1 then l.drop b.ins.length else (l.drop b.ins.length).tail
def nvBlocks (regs:Nat):List Block→List UInt8→List Block
 |[],_=>[]
 |b :: r,l=>nvBlock regs b l :: nvBlocks regs r (nvRest b l)
def nvCode (f:Func) (regs:Nat) (l:List UInt8):Code:=⟨f.params,regs,f.vregs,nvBlocks regs f.blocks l⟩
def homeL (regs n:Nat):List PairV:=(List.range n).map λ(v:Nat)=>⟨(v:Int),(regs:Int)+(v:Int)⟩
def nvCert (f:Func) (regs:Nat):List (List PairV):=f.blocks.map λ_=>homeL regs f.vregs.toNat
theorem Runs.app {regs:Int} {S S1 S2:PairV→Prop} {f f1 f2 cs ds:List Ins} (h:Runs regs S f cs S1 f1) (k:Runs regs S1 f1 ds S2 f2):Runs regs S f (cs++ds) S2 f2:=by
 induction h with
 |nil S f=>exact k
 |spill S f i cs S' f' a b c d e _ ih=>exact .spill _ _ _ _ _ _ a b c d e (ih k)
 |fill S f i cs S' f' a b c d e _ ih=>exact .fill _ _ _ _ _ _ a b c d e (ih k)
 |mtch S f i cs S' f' S1 g r a b c d e1 e2 e3 e4 e5 e6 e7 e8 e9 e10 _ ih=>exact .mtch _ _ _ _ _ _ S1 g r a b c d e1 e2 e3 e4 e5 e6 e7 e8 e9 e10 (ih k)
def mvA (S:PairV→Prop):List Ins→(PairV→Prop)
 |[]=>S
 |i :: r=>mvA (movedS S i.d i.a) r
theorem mvA_snoc:∀ (M:List Ins) (S:PairV→Prop) (i:Ins),mvA S (M++[i])=movedS (mvA S M) i.d i.a
 |[],S,i=>rfl
 |m :: M,S,i=>mvA_snoc M _ i
theorem movesS_all:∀ (M:List Ins) (S:PairV→Prop),(∀ m∈M,m.kind=2)→movesS S M=(mvA S M,[])
 |[],S,h=>rfl
 |m :: M,S,h=>by
  unfold movesS mvA
  rw[if_pos (h m (by simp))]
  exact movesS_all M _ λx hx=>h x (by simp[hx])
theorem movesS_stop:∀ (M:List Ins) (S:PairV→Prop) (i:Ins) (r:List Ins),(∀ m∈M,m.kind=2)→i.kind≠2→movesS S (M++i :: r)=(mvA S M,i :: r)
 |[],S,i,r,h,hi=>by
  show movesS S (i :: r)=_
  unfold movesS
  rw[if_neg hi]
  rfl
 |m :: M,S,i,r,h,hi=>by
  show movesS S (m :: (M++i :: r))=_
  unfold movesS mvA
  rw[if_pos (h m (by simp))]
  exact movesS_stop M _ i r (λx hx=>h x (by simp[hx])) hi
theorem moved_copied (S:PairV→Prop) (to fr d a:Int):movedS (copiedS S to fr) d a=copiedS (movedS S d a) to fr:=by
 funext p
 unfold movedS copiedS
 dsimp only
 by_cases h1:p.v=d<;>by_cases h2:p.l=to<;>simp[h1,h2]
theorem mvA_copied:∀ (M:List Ins) (S:PairV→Prop) (to fr:Int),mvA (copiedS S to fr) M=copiedS (mvA S M) to fr
 |[],S,to,fr=>rfl
 |m :: M,S,to,fr=>by
  unfold mvA
  rw[moved_copied]
  exact mvA_copied M _ _ _
def Home (regs n:Int) (T:PairV→Prop):Prop:=∀ v,0≤v→v < n→T ⟨v,regs+v⟩
section
variable {regs n:Int} {T:PairV→Prop}
theorem Home.fill (h:Home regs n T) (r fr:Int) (hr:r < regs):Home regs n (copiedS T r fr):=λv h0 h1=>by
 unfold copiedS
 rw[if_neg (by dsimp only;omega)]
 exact h v h0 h1
theorem Home.give (h:Home regs n T) (d r:Int) (hr:r < regs):Home regs n (copiedS (givenS T d r) (regs+d) r):=λv h0 h1=>by
 unfold copiedS givenS
 dsimp only
 by_cases e:v=d
 ·subst e
  rw[if_pos rfl]
  exact .inr rfl
 ·rw[if_neg (by omega)]
  exact .inl ⟨e,by omega,h v h0 h1⟩
theorem Home.move (h:Home regs n T) (d a r:Int) (hr:r < regs) (h0:0≤r) (hd:0≤d) (ha:0≤a) (han:a < n):Home regs n (movedS (copiedS (copiedS T r (regs+a)) (regs+d) r) d a):=λv h0 h1=>by
 unfold movedS copiedS
 dsimp only
 by_cases e:v=d
 ·subst e
  simp only[if_true]
  exact h a ha han
 ·rw[if_neg e,if_neg (by omega),if_neg (by omega)]
  exact h v h0 h1
end
def fillS (regs:Int):Nat→List Int→(PairV→Prop)→(PairV→Prop)
 |_,[],S=>S
 |k,a :: r,S=>fillS regs (k+1) r (copiedS S k (regs+a))
theorem fillS_run (regs:Int) (f:List Ins):∀ (args:List Int) (k:Nat) (S:PairV→Prop),(∀ a∈args,0≤a∧a < 64)→k+args.length≤64→Runs regs S f (fillsA k args) (fillS regs k args S) f
 |[],k,S,_,_=>.nil _ _
 |a :: r,k,S,h,hk=>by
  have ha:=h a (by simp)
  simp only[List.length_cons] at hk
  exact .fill _ _ _ _ _ _ rfl (by show (0:Int)≤k;omega) (by show (k:Int) < 64;omega) ha.1 ha.2 (fillS_run regs f r (k+1) _ (λx hx=>h x (by simp[hx])) (by omega))
theorem fillS_mv (regs:Int) (M:List Ins):∀ (args:List Int) (k:Nat) (S:PairV→Prop),mvA (fillS regs k args S) M=fillS regs k args (mvA S M)
 |[],k,S=>rfl
 |a :: r,k,S=>by
  unfold fillS
  rw[fillS_mv regs M r,mvA_copied]
theorem fillS_low (regs:Int):∀ (args:List Int) (k:Nat) (S:PairV→Prop) (p:PairV),(p.l < k∨(k:Int)+args.length≤p.l)→(fillS regs k args S p↔S p)
 |[],k,S,p,h=>Iff.rfl
 |a :: r,k,S,p,h=>by
  simp only[List.length_cons] at h
  unfold fillS
  rw[fillS_low regs r (k+1) _ p (by omega)]
  unfold copiedS
  rw[if_neg (by omega)]
theorem fillS_at (regs:Int):∀ (args:List Int) (k:Nat) (S:PairV→Prop) (v:Int) (j:Nat) (hj:j < args.length),(k:Int)+args.length≤regs→(∀ a∈args,0≤a)→(fillS regs k args S ⟨v,k+j⟩↔S ⟨v,regs+args[j]⟩)
 |a :: r,k,S,v,0,hj,hk,ha=>by
  unfold fillS
  rw[fillS_low regs r (k+1) _ _ (by dsimp only;omega)]
  unfold copiedS
  rw[if_pos (by dsimp only;omega)]
  rfl
 |a :: r,k,S,v,j+1,hj,hk,ha=>by
  simp only[List.length_cons] at hk hj
  unfold fillS
  have h0:=fillS_at regs r (k+1) (copiedS S k (regs+a)) v j (by omega) (by omega) (λx hx=>ha x (by simp[hx]))
  rw[show ((k:Int)+((j+1:Nat):Int))=(((k+1:Nat):Int)+(j:Int)) by omega,h0]
  have:=ha r[j] (by simp)
  unfold copiedS
  rw[if_neg (by dsimp only;omega)]
  rfl
theorem Home.fills {regs n:Int} {T:PairV→Prop} (h:Home regs n T) (args:List Int) (k:Nat) (hk:(k:Int)+args.length≤regs):Home regs n (fillS regs k args T):=λv h0 h1 =>
 (fillS_low regs args k T _ (.inr (by dsimp only;omega))).2 (h v h0 h1)
theorem upTo_len (n:Nat):(upTo n).length=n:=by simp[upTo]
theorem upTo_get (n j:Nat) (h:j < (upTo n).length):(upTo n)[j]=(j:Int):=by simp[upTo]
theorem nv_one (regs q rd r1 r2:Nat) (hr:q < regs) (hd:rd < regs) (h1:r1 < 3) (h2:r2 < 3) (h12:r1≠r2) (n:Int) (h3:3≤regs) (h8:regs≤8) (hn:n≤32) (i:Ins) (hi:InsOk n i) (r:List Ins) (S:PairV→Prop) (M:List Ins) (hM:∀ m∈M,m.kind=2) (hH:Home regs n (mvA S M)) :
  ∃ S' M',Runs regs S (M++i :: r) (nvI q rd r1 r2 i) S' (M'++r)∧(∀ m∈M',m.kind=2)∧Home regs n (mvA S' M'):=by
 obtain⟨k,op,d,a,b,nn,args⟩:=i
 obtain⟨k1,k6,op3,op0,d0,a0,b0,n0,args0,args3,hu,hg⟩:=hi
 dsimp only at *
 have:k=1∨k=2∨k=3∨k=4∨k=5∨k=6:=by omega
 rcases this with rfl|rfl|rfl|rfl|rfl|rfl
 ·obtain rfl:=args0 (by omega)
  have hg:=hg rfl
  refine⟨copiedS (givenS (mvA S M) d rd) (regs+d) rd,[],?_,by simp,?_⟩
  ·refine .mtch _ _ _ _ _ _ _ _ _ (by simp) (by simp) (by simp) (movesS_stop M S _ r hM (by simp)) rfl rfl rfl rfl (by simp[upTo]) (by simp;omega) (by simp;omega) (by simp) (by simp;omega) (by simp[usesL]) ?_
   exact .spill _ _ _ _ _ _ rfl hg.1 (by show d < 64;omega) (by simp[spillI]) (by simp[spillI];omega) (.nil _ _)
  ·exact hH.give d _ (by simp;omega)
 ·obtain⟨hd0,hd1⟩:=hg rfl
  have ha:=hu a (by simp[usesL])
  refine⟨copiedS (copiedS S q (regs+a)) (regs+d) q,M++[⟨2,op,d,a,b,nn,args⟩],?_,?_,?_⟩
  ·rw[List.append_assoc]
   refine .fill _ _ _ _ _ _ rfl (by simp[fillI]) (by simp[fillI];omega) ha.1 (by show a < 64;omega) ?_
   exact .spill _ _ _ _ _ _ rfl hd0 (by show d < 64;omega) (by simp[spillI]) (by simp[spillI];omega) (.nil _ _)
  ·intro m hm
   rcases List.mem_append.1 hm with hm|hm
   ·exact hM m hm
   ·simp at hm;rw[hm]
  ·rw[mvA_snoc,mvA_copied,mvA_copied]
   exact hH.move d a _ (by simp[fillI];omega) (by simp[fillI]) hd0 ha.1 ha.2
 ·obtain rfl:=args0 (by omega)
  have hg:=hg rfl
  have ha:=hu a (by simp[usesL])
  have hb:=hu b (by simp[usesL])
  refine⟨copiedS (givenS (mvA (copiedS (copiedS S r1 (regs+a)) r2 (regs+b)) M) d rd) (regs+d) rd,[],?_,by simp,?_⟩
  ·refine .fill _ _ _ _ _ _ rfl (by simp[fillI]) (by simp[fillI];omega) ha.1 (by show a < 64;omega) ?_
   refine .fill _ _ _ _ _ _ rfl (by simp[fillI]) (by simp[fillI];omega) hb.1 (by show b < 64;omega) ?_
   refine .mtch _ _ _ _ _ _ _ _ _ (by simp) (by simp) (by simp) (movesS_stop M _ _ r hM (by simp)) rfl rfl rfl rfl (by simp) (by simp;omega) (by simp;omega) (by simp) (by simp;omega) ?_ ?_
   ·intro j j1 j2
    rw[mvA_copied,mvA_copied]
    unfold copiedS
    have hja:mvA S M ⟨a,regs+a⟩:=hH a ha.1 ha.2
    have hjb:mvA S M ⟨b,regs+b⟩:=hH b hb.1 hb.2
    have:j=0∨j=1:=by simp[usesL] at j1;omega
    rcases this with rfl|rfl
    ·simp only[usesL,fillI]
     simp
     rw[if_neg (by omega)]
     exact hja
    ·simp only[usesL,fillI]
     simp
     rw[if_neg (by omega)]
     exact hjb
   ·exact .spill _ _ _ _ _ _ rfl hg.1 (by show d < 64;omega) (by simp[spillI]) (by simp[spillI];omega) (.nil _ _)
  ·show Home regs n (copiedS (givenS (mvA _ M) d rd) (regs+d) rd)
   rw[mvA_copied,mvA_copied]
   exact((hH.fill _ _ (by simp[fillI];omega)).fill _ _ (by simp[fillI];omega)).give d _ (by simp;omega)
 ·obtain rfl:=args0 (by omega)
  have hg:=hg rfl
  have ha:=hu a (by simp[usesL])
  refine⟨copiedS (givenS (mvA (copiedS S q (regs+a)) M) d rd) (regs+d) rd,[],?_,by simp,?_⟩
  ·refine .fill _ _ _ _ _ _ rfl (by simp[fillI]) (by simp[fillI];omega) ha.1 (by show a < 64;omega) ?_
   refine .mtch _ _ _ _ _ _ _ _ _ (by simp) (by simp) (by simp) (movesS_stop M _ _ r hM (by simp)) rfl rfl rfl rfl (by simp) (by simp;omega) (by simp;omega) (by simp) (by simp;omega) ?_ ?_
   ·intro j j1 j2
    rw[mvA_copied]
    unfold copiedS
    have hja:mvA S M ⟨a,regs+a⟩:=hH a ha.1 ha.2
    obtain rfl:j=0:=by simp[usesL] at j1;omega
    simp only[usesL,fillI]
    simp
    exact hja
   ·exact .spill _ _ _ _ _ _ rfl hg.1 (by show d < 64;omega) (by simp[spillI]) (by simp[spillI];omega) (.nil _ _)
  ·show Home regs n (copiedS (givenS (mvA _ M) d rd) (regs+d) rd)
   rw[mvA_copied]
   exact(hH.fill _ _ (by simp[fillI];omega)).give d _ (by simp;omega)
 ·obtain rfl:=args0 (by omega)
  obtain rfl:=d0 rfl
  have ha:=hu a (by simp[usesL])
  have hb:=hu b (by simp[usesL])
  refine⟨mvA (copiedS (copiedS S r1 (regs+a)) r2 (regs+b)) M,[],?_,by simp,?_⟩
  ·refine .fill _ _ _ _ _ _ rfl (by simp[fillI]) (by simp[fillI];omega) ha.1 (by show a < 64;omega) ?_
   refine .fill _ _ _ _ _ _ rfl (by simp[fillI]) (by simp[fillI];omega) hb.1 (by show b < 64;omega) ?_
   refine .mtch _ _ _ _ _ _ _ _ _ (by simp) (by simp) (by simp) (movesS_stop M _ _ r hM (by simp)) rfl rfl rfl rfl (by simp) (by simp) (by simp) (by simp) (by simp) ?_ (.nil _ _)
   ·intro j j1 j2
    rw[mvA_copied,mvA_copied]
    unfold copiedS
    have hja:mvA S M ⟨a,regs+a⟩:=hH a ha.1 ha.2
    have hjb:mvA S M ⟨b,regs+b⟩:=hH b hb.1 hb.2
    have:j=0∨j=1:=by simp[usesL] at j1;omega
    rcases this with rfl|rfl
    ·simp only[usesL,fillI]
     simp
     rw[if_neg (by omega)]
     exact hja
    ·simp only[usesL,fillI]
     simp
     rw[if_neg (by omega)]
     exact hjb
  ·show Home regs n (mvA (copiedS (copiedS S r1 (regs+a)) r2 (regs+b)) M)
   rw[mvA_copied,mvA_copied]
   exact(hH.fill (r1:Int) _ (by omega)).fill (r2:Int) _ (by omega)
 ·have hg:=hg rfl
  have hua:∀ x∈args,0≤x∧x < n:=λx hx=>hu x (by simpa [usesL] using hx)
  refine⟨copiedS (givenS (mvA (fillS regs 0 args S) M) d rd) (regs+d) rd,[],?_,by simp,?_⟩
  ·refine(fillS_run regs _ args 0 S (λx hx=>by have:=hua x hx;omega) (by omega)).app ?_
   refine .mtch _ _ _ _ _ _ _ _ _ (by simp) (by simp) (by simp) (movesS_stop M _ _ r hM (by simp)) rfl rfl rfl (by simp[upTo_len]) (by simp[upTo_len];omega) (by simp;omega) (by simp;omega) (by simp) (by simp;omega) ?_ ?_
   ·intro j j1 j2
    rw[fillS_mv]
    have j1':j < args.length:=by simpa [usesL] using j1
    have e1:(usesL 6 a b args)[j]'j1=args[j]:=by simp[usesL]
    have e2:(usesL 6 a b (upTo args.length))[j]'j2=(j:Int):=by simp[usesL,upTo_get]
    dsimp only
    rw[e1,e2]
    have:=(fillS_at regs args 0 (mvA S M) args[j] j j1' (by omega) (λx hx=>(hua x hx).1)).2 (hH _ (hua _ (by simp)).1 (hua _ (by simp)).2)
    simpa using this
   ·exact .spill _ _ _ _ _ _ rfl hg.1 (by show d < 64;omega) (by simp[spillI]) (by simp[spillI];omega) (.nil _ _)
  ·show Home regs n (copiedS (givenS (mvA _ M) d rd) (regs+d) rd)
   rw[fillS_mv]
   exact(hH.fills args 0 (by omega)).give d _ (by simp;omega)
theorem nv_runs (regs:Nat) (n:Int) (h3:3≤regs) (h8:regs≤8) (hn:n≤32):∀ (is:List Ins) (l:List UInt8) (S:PairV→Prop) (M:List Ins),(∀ i∈is,InsOk n i)→(∀ m∈M,m.kind=2)→Home regs n (mvA S M) →
  ∃ S' M',Runs regs S (M++is) (nvL regs is l) S' M'∧(∀ m∈M',m.kind=2)∧Home regs n (mvA S' M')
 |[],l,S,M,_,hM,hH=>⟨S,M,by rw[List.append_nil];exact .nil _ _,hM,hH⟩
 |i :: r,l,S,M,hi,hM,hH=>by
  obtain⟨S1,M1,h1,h2,h4⟩:=nv_one regs (chd l % regs) (chd l / 8 % regs) (chd l % 3) ((chd l+1) % 3) (Nat.mod_lt _ (by omega)) (Nat.mod_lt _ (by omega)) (Nat.mod_lt _ (by omega)) (Nat.mod_lt _ (by omega)) (by omega) n h3 h8 hn i (hi i (by simp)) r S M hM hH
  obtain⟨S2,M2,h5,h6,h7⟩:=nv_runs regs n h3 h8 hn r l.tail S1 M1 (λx hx=>hi x (by simp[hx])) h2 h4
  exact⟨S2,M2,h1.app h5,h6,h7⟩
theorem mem_home {regs n:Nat} {p:PairV}:p∈homeL regs n↔∃ v:Nat,v < n∧p=⟨(v:Int),(regs:Int)+(v:Int)⟩:=by
 unfold homeL
 simp only[List.mem_map,List.mem_range]
 exact⟨λ⟨v,h,e⟩=>⟨v,h,e.symm⟩,λ⟨v,h,e⟩=>⟨v,h,e.symm⟩⟩
theorem home_home (regs:Nat) (n:Int):Home regs n (·∈homeL regs n.toNat):=λv h0 h1=>mem_home.2 ⟨v.toNat,by omega,by rw[Int.toNat_of_nonneg h0]⟩
theorem home_len (regs n:Nat):(homeL regs n).length=n:=by simp[homeL]
theorem home_pw (regs n:Nat):(homeL regs n).Pairwise PLt:=by
 unfold homeL
 rw[List.pairwise_map]
 exact List.pairwise_lt_range.imp λh=>.inl (by simpa using h)
theorem nvIns_len (regs c:Nat) (i:Ins) (h:i.args.length≤3):(nvIns regs c i).length≤5:=by
 have hf:∀ (l:List Int) (k:Nat),(fillsA k l).length=l.length:=by
  intro l
  induction l with
  |nil=>intro k;rfl
  |cons a r ih=>intro k;simp[fillsA,ih]
 unfold nvIns nvI
 repeat' split
 all_goals simp[hf]
 all_goals omega
theorem nvL_len (regs:Nat):∀ (is:List Ins) (l:List UInt8),(∀ i∈is,i.args.length≤3)→(nvL regs is l).length≤5*is.length
 |[],l,_=>by simp[nvL]
 |i :: r,l,h=>by
  have h1:=nvIns_len regs (chd l) i (h i (by simp))
  have h2:=nvL_len regs r l.tail (λx hx=>h x (by simp[hx]))
  simp only[nvL,List.length_append,List.length_cons]
  omega
theorem fillsA_mem {x:Ins}:∀ (l:List Int) (k:Nat),x∈fillsA k l→∃ j a,j < l.length∧a∈l∧x=fillI a (k+j)
 |[],k,h=>by cases h
 |a :: r,k,h=>by
  unfold fillsA at h
  rcases List.mem_cons.1 h with rfl|h
  ·exact⟨0,a,by simp,by simp,rfl⟩
  ·obtain⟨j,b,h1,h2,rfl⟩:=fillsA_mem r (k+1) h
   exact⟨j+1,b,by simp;omega,by simp[h2],by rw[show k+1+j=k+(j+1) by omega]⟩
def IntN (i:Ins):Prop:=-9223372036854775808≤i.n∧i.n≤9223372036854775807
theorem fill_ok {regs:Nat} {n a:Int} {r:Nat} (h0:0≤a) (h1:a < n) (hr:r < regs) (hn:n≤32) (h8:regs≤8):MInsOk n regs (fillI a r)∧InsFine (fillI a r) :=
 ⟨.inl ⟨.inr ⟨rfl,by simp[fillI],by simp[fillI];omega,h0,h1⟩,rfl,rfl,rfl,rfl⟩,⟨⟨by simp[fillI],by simp[fillI];omega,by simp[fillI];omega,by simp[fillI],by simp[fillI],by simp[fillI],by simp[fillI]⟩,by simp[fillI],by simp[fillI]⟩⟩
theorem spill_ok {regs:Nat} {n d:Int} {r:Nat} (h0:0≤d) (h1:d < n) (hr:r < regs) (hn:n≤32) (h8:regs≤8):MInsOk n regs (spillI d r)∧InsFine (spillI d r) :=
 ⟨.inl ⟨.inl ⟨rfl,by simp[spillI],by simp[spillI];omega,h0,h1⟩,rfl,rfl,rfl,rfl⟩,⟨⟨by simp[spillI],by simp[spillI];omega,by simp[spillI];omega,by simp[spillI],by simp[spillI],by simp[spillI],by simp[spillI]⟩,by simp[spillI],by simp[spillI]⟩⟩
theorem upTo_mem {n:Nat} {x:Int} (h:x∈upTo n):0≤x∧x < n:=by
 unfold upTo at h
 simp only[List.mem_map,List.mem_range] at h
 obtain⟨k,hk,rfl⟩:=h
 omega
theorem nvI_ok (regs q rd r1 r2:Nat) (hr:q < regs) (hd:rd < regs) (h1:r1 < 3) (h2:r2 < 3) (n:Int) (h3:3≤regs) (h8:regs≤8) (hn:n≤32) (i:Ins) (hi:InsOk n i) (hN:IntN i) (x:Ins) (hx:x∈nvI q rd r1 r2 i):MInsOk n regs x∧InsFine x:=by
 obtain⟨k,op,d,a,b,nn,args⟩:=i
 obtain⟨k1,k6,op3,op0,d0,a0,b0,n0,args0,args3,hu,hg⟩:=hi
 unfold IntN at hN
 dsimp only at *
 have:k=1∨k=2∨k=3∨k=4∨k=5∨k=6:=by omega
 rcases this with rfl|rfl|rfl|rfl|rfl|rfl
 ·obtain rfl:=args0 (by omega)
  have hg:=hg rfl
  obtain rfl:=op0 (by omega)
  obtain rfl:=a0 (by omega)
  obtain rfl:=b0 (by omega) (by omega)
  simp[nvI,fillsA] at hx
  rcases hx with rfl|rfl
  ·exact⟨.inr ⟨by simp,by simp,by simp,by simp,by simp,by simp,by simp,by simp,by simp[upTo],by simp[upTo],by simp[usesL],by simp;omega⟩,⟨⟨by simp,by simp;omega,by simp,by simp,hN,by simp[upTo],by simp[upTo]⟩,by simp,by simp⟩⟩
  ·exact spill_ok hg.1 hg.2 hd hn h8
 ·have hg:=hg rfl
  have ha:=hu a (by simp[usesL])
  simp[nvI] at hx
  rcases hx with rfl|rfl
  ·exact fill_ok ha.1 ha.2 hr hn h8
  ·exact spill_ok hg.1 hg.2 hr hn h8
 ·have hg:=hg rfl
  have ha:=hu a (by simp[usesL])
  have hb:=hu b (by simp[usesL])
  have ho:=op3 rfl
  obtain rfl:=n0 (by omega) (by omega)
  simp[nvI] at hx
  rcases hx with rfl|rfl|rfl|rfl
  ·exact fill_ok ha.1 ha.2 (by omega) hn h8
  ·exact fill_ok hb.1 hb.2 (by omega) hn h8
  ·exact⟨.inr ⟨by simp,by simp,by simp;omega,by simp,by simp,by simp,by simp,by simp,by simp,by simp,by simp[usesL];omega,by simp;omega⟩,⟨⟨by simp;omega,by simp;omega,by simp;omega,by simp;omega,by simp,by simp,by simp⟩,by simp,by simp⟩⟩
  ·exact spill_ok hg.1 hg.2 hd hn h8
 ·have hg:=hg rfl
  have ha:=hu a (by simp[usesL])
  obtain rfl:=op0 (by omega)
  obtain rfl:=b0 (by omega) (by omega)
  obtain rfl:=n0 (by omega) (by omega)
  simp[nvI] at hx
  rcases hx with rfl|rfl|rfl
  ·exact fill_ok ha.1 ha.2 hr hn h8
  ·exact⟨.inr ⟨by simp,by simp,by simp,by simp,by simp,by simp,by simp,by simp,by simp,by simp,by simp[usesL];omega,by simp;omega⟩,⟨⟨by simp,by simp;omega,by simp;omega,by simp,by simp,by simp,by simp⟩,by simp,by simp⟩⟩
  ·exact spill_ok hg.1 hg.2 hd hn h8
 ·have ha:=hu a (by simp[usesL])
  have hb:=hu b (by simp[usesL])
  obtain rfl:=op0 (by omega)
  obtain rfl:=d0 rfl
  obtain rfl:=n0 (by omega) (by omega)
  simp[nvI] at hx
  rcases hx with rfl|rfl|rfl
  ·exact fill_ok ha.1 ha.2 (by omega) hn h8
  ·exact fill_ok hb.1 hb.2 (by omega) hn h8
  ·exact⟨.inr ⟨by simp,by simp,by simp,by simp,by simp,by simp,by simp,by simp,by simp,by simp,by simp[usesL];omega,by simp[givesB]⟩,⟨⟨by simp,by simp,by simp;omega,by simp;omega,by simp,by simp,by simp⟩,by simp,by simp⟩⟩
 ·have hg:=hg rfl
  obtain rfl:=op0 (by omega)
  obtain rfl:=a0 (by omega)
  obtain rfl:=b0 (by omega) (by omega)
  have hx':x∈fillsA 0 args∨x=⟨6,0,rd,0,0,nn,upTo args.length⟩∨x=spillI d (rd):=by
   simpa [nvI] using hx
  rcases hx' with hx|rfl|rfl
  ·obtain⟨j,a,hj,ha,rfl⟩:=fillsA_mem _ _ hx
   have:=hu a (by simpa [usesL] using ha)
   exact fill_ok this.1 this.2 (by omega) hn h8
  ·have hup:∀ y∈upTo args.length,0≤y∧y < 3:=λy hy=>by have:=upTo_mem hy;omega
   exact⟨.inr ⟨by simp,by simp,by simp,by simp,by simp,by simp,by simp,by simp,by simp,by simp[upTo_len];omega,λu hu=>by have:=hup u (by simpa [usesL] using hu);omega,by simp;omega⟩,⟨⟨by simp,by simp;omega,by simp,by simp,hN,λy hy=>by have:=hup y hy;omega,by simp[upTo_len];omega⟩,by simp,by simp⟩⟩
  ·exact spill_ok hg.1 hg.2 hd hn h8
theorem nvL_ok (regs:Nat) (n:Int) (h3:3≤regs) (h8:regs≤8) (hn:n≤32):∀ (is:List Ins) (l:List UInt8),(∀ i∈is,InsOk n i∧IntN i)→∀ x∈nvL regs is l,MInsOk n regs x∧InsFine x
 |[],l,_,x,hx=>by cases hx
 |i :: r,l,h,x,hx=>by
  unfold nvL at hx
  rcases List.mem_append.1 hx with hx|hx
  ·exact nvI_ok regs _ _ _ _ (Nat.mod_lt _ (by omega)) (Nat.mod_lt _ (by omega)) (Nat.mod_lt _ (by omega)) (Nat.mod_lt _ (by omega)) n h3 h8 hn i (h i (by simp)).1 (h i (by simp)).2 x hx
  ·exact nvL_ok regs n h3 h8 hn r _ (λy hy=>h y (by simp[hy])) x hx
structure Small (f:Func):Prop where
 ok:FuncOk f
 b7:f.blocks.length≤7
 i8:∀ b∈f.blocks,b.ins.length≤8
 v15:f.vregs≤15
 n:∀ b∈f.blocks,∀ i∈b.ins,IntN i
section
variable {regs:Nat} {f:Func} (hs:Small f) (h3:3≤regs) (h8:regs≤8)
include hs h3 h8
theorem nvBlock_len (b:Block) (hb:b∈f.blocks) (l:List UInt8):(nvBlock regs b l).ins.length≤41:=by
 have h1:=nvL_len regs b.ins l (λi hi=>((hs.ok.blocks b hb).ins i hi).args3)
 have h2:=hs.i8 b hb
 unfold nvBlock
 split
 ·dsimp only;omega
 ·simp;omega
theorem nvBlock_ok (b:Block) (hb:b∈f.blocks) (l:List UInt8):BlockOk regs f.blocks.length 400 (MInsOk f.vregs) (nvBlock regs b l)∧BlockFine (nvBlock regs b l):=by
 have hv:=hs.v15
 have hl:=nvBlock_len hs h3 h8 b hb l
 have hok:=nvL_ok regs f.vregs h3 h8 (by omega) b.ins l (λi hi=>⟨(hs.ok.blocks b hb).ins i hi,hs.n b hb i hi⟩)
 have he:=(hs.ok.blocks b hb).fin
 have h7:=hs.b7
 unfold EndOk at he
 unfold nvBlock at hl⊢
 split
 ·rename_i h1
  rw[if_pos h1] at hl
  dsimp only at hl
  refine⟨⟨by dsimp only;omega,λx hx=>(hok x hx).1,?_⟩,⟨by dsimp only;omega,λx hx=>(hok x hx).2,?_⟩⟩
  ·unfold EndOk;dsimp only;omega
  ·constructor<;>dsimp only<;>omega
 ·rename_i h1
  rw[if_neg h1] at hl
  dsimp only at hl
  have hr:chd (l.drop b.ins.length) % regs < regs:=Nat.mod_lt _ (by omega)
  have hf:=fill_ok (regs:=regs) (n:=f.vregs) (a:=b.fin.a) (r:=chd (l.drop b.ins.length) % regs) (by omega) (by omega) hr (by omega) h8
  refine⟨⟨by dsimp only;omega,λx hx=>?_,?_⟩,⟨by dsimp only;omega,λx hx=>?_,?_⟩⟩
  ·rcases List.mem_append.1 hx with hx|hx
   ·exact(hok x hx).1
   ·simp at hx;rw[hx];exact hf.1
  ·unfold EndOk;dsimp only;omega
  ·rcases List.mem_append.1 hx with hx|hx
   ·exact(hok x hx).2
   ·simp at hx;rw[hx];exact hf.2
  ·constructor<;>dsimp only<;>omega
theorem nvBlock_runs (b:Block) (hb:b∈f.blocks) (l:List UInt8):BlockRuns regs (nvCert f regs) b (nvBlock regs b l) (homeL regs f.vregs.toNat):=by
 have hv:=hs.v15
 have he:=(hs.ok.blocks b hb).fin
 obtain⟨S1,M,hr,hM,hH⟩:=nv_runs regs f.vregs h3 h8 (by omega) b.ins l (·∈homeL regs f.vregs.toNat) [] (hs.ok.blocks b hb).ins (by simp) (home_home regs f.vregs)
 have hnx:∀ n∈nextL b.fin.kind b.fin.to_ b.fin.else_,0≤n∧n < (nvCert f regs).length:=by
  intro n hn
  have:(nvCert f regs).length=f.blocks.length:=by simp[nvCert]
  rw[this]
  unfold EndOk at he
  unfold nextL at hn
  split at hn
  ·simp at hn;omega
  ·split at hn
   ·split at hn
    ·simp at hn;omega
    ·simp at hn;omega
   ·cases hn
 have hho:∀ (S2:PairV→Prop),Home regs f.vregs S2→∀ n:Int,∀ (h:n.toNat < (nvCert f regs).length),∀ p∈(nvCert f regs)[n.toNat],S2 p:=by
  intro S2 h2 n h p hp
  simp only[nvCert,List.getElem_map] at hp
  obtain⟨v,hv,rfl⟩:=mem_home.1 hp
  exact h2 v (by omega) (by omega)
 rw[List.nil_append] at hr
 unfold nvBlock
 split
 ·rename_i h1
  exact⟨⟨S1,_,M,hr,movesS_all M S1 hM,λhl=>by rw[h1] at hl;simp[lastB] at hl,λn hn=>⟨(hnx n hn).1,(hnx n hn).2,hho _ hH n⟩⟩,rfl⟩
 ·rename_i h1
  have hrr:chd (l.drop b.ins.length) % regs < regs:=Nat.mod_lt _ (by omega)
  have ha:0≤b.fin.a∧b.fin.a < f.vregs:=by unfold EndOk at he;omega
  refine⟨⟨copiedS S1 (chd (l.drop b.ins.length) % regs:Nat) (regs+b.fin.a),_,M,hr.app (.fill _ _ _ _ _ _ rfl (Int.natCast_nonneg _) (by show ((chd (l.drop b.ins.length) % regs:Nat):Int) < 64;omega) ha.1 (by show b.fin.a < 64;omega) (.nil _ _)),movesS_all M _ hM,λ_=>?_,λn hn=>⟨(hnx n hn).1,(hnx n hn).2,hho _ ?_ n⟩⟩,rfl⟩
  ·rw[mvA_copied]
   unfold copiedS
   dsimp only
   rw[if_pos rfl]
   exact hH _ ha.1 ha.2
  ·rw[mvA_copied]
   exact hH.fill ((chd (l.drop b.ins.length) % regs:Nat):Int) _ (by omega)
theorem nvBlocks_len (g:List Block) (l:List UInt8):(nvBlocks regs g l).length=g.length:=by
 induction g generalizing l with
 |nil=>rfl
 |cons b r ih=>simp[nvBlocks,ih]
theorem nvBlocks_at:∀ (g:List Block) (l:List UInt8) (j:Nat) (h:j < g.length) (h2:j < (nvBlocks regs g l).length),∃ l',(nvBlocks regs g l)[j]=nvBlock regs g[j] l'
 |b :: r,l,0,h,h2=>⟨l,rfl⟩
 |b :: r,l,j+1,h,h2=>by
  simpa [nvBlocks] using nvBlocks_at r (nvRest b l) j (by simpa using h) (by simpa [nvBlocks] using h2)
theorem nvBlocks_mem {g:List Block} {l:List UInt8} {x:Block} (hx:x∈nvBlocks regs g l):∃ b∈g,∃ l',x=nvBlock regs b l':=by
 induction g generalizing l with
 |nil=>cases hx
 |cons b r ih =>
  unfold nvBlocks at hx
  rcases List.mem_cons.1 hx with rfl|hx
  ·exact⟨b,by simp,_,rfl⟩
  ·obtain⟨c,hc,l',e⟩:=ih hx
   exact⟨c,by simp[hc],l',e⟩
theorem nvCode_ok (l:List UInt8):CodeOk (nvCode f regs l)∧∀ b∈(nvCode f regs l).blocks,BlockFine b:=by
 have h:=hs.ok
 have hv:=hs.v15
 have hlen:(nvBlocks regs f.blocks l).length=f.blocks.length:=nvBlocks_len hs h3 h8 _ _
 refine⟨⟨h.p0,h.p4,?_,?_,h.pv,?_,?_,?_,?_⟩,?_⟩
 ·show (3:Int)≤regs;omega
 ·show (regs:Int)≤8;omega
 ·show f.vregs≤64;omega
 ·show 1≤(nvBlocks regs f.blocks l).length;rw[hlen];exact h.n1
 ·show (nvBlocks regs f.blocks l).length≤16;rw[hlen];exact h.n16
 ·intro x hx
  obtain⟨b,hb,l',rfl⟩:=nvBlocks_mem hs h3 h8 hx
  show BlockOk regs (nvBlocks regs f.blocks l).length 400 (MInsOk f.vregs) _
  rw[hlen]
  exact(nvBlock_ok hs h3 h8 b hb l').1
 ·intro x hx
  obtain⟨b,hb,l',rfl⟩:=nvBlocks_mem hs h3 h8 hx
  exact(nvBlock_ok hs h3 h8 b hb l').2
theorem nv_verified (l:List UInt8):Verified f (nvCode f regs l) (nvCert f regs):=by
 have h:=hs.ok
 have hv:=hs.v15
 have hlen:(nvBlocks regs f.blocks l).length=f.blocks.length:=nvBlocks_len hs h3 h8 _ _
 refine⟨h,(nvCode_ok hs h3 h8 l).1,rfl,hlen.symm,by simp[nvCert],?_,?_,?_,?_,?_⟩
 ·intro x hx
  obtain⟨b,hb,rfl⟩:=List.mem_map.1 hx
  exact home_pw _ _
 ·intro x hx p hp
  obtain⟨b,hb,rfl⟩:=List.mem_map.1 hx
  obtain⟨v,hv,rfl⟩:=mem_home.1 hp
  show 0≤(v:Int)∧(v:Int) < f.vregs∧0≤(regs:Int)+v∧(regs:Int)+v < regs+f.vregs
  omega
 ·intro h0 p hp
  simp only[nvCert,List.getElem_map] at hp
  obtain⟨v,hv,rfl⟩:=mem_home.1 hp
  have hp0:=h.p0
  refine mem_firstL.2 ⟨v,regs+v,hv,?_,?_,by simp⟩
  ·show regs+v < ((regs:Int)+f.vregs).toNat
   omega
  ·show firstC f.params.toNat ((regs:Int)).toNat v (regs+v)=true
   unfold firstC
   by_cases e:v < f.params.toNat
   ·rw[if_pos e]
    exact decide_eq_true (by simp only[Int.toNat_natCast];omega)
   ·rw[if_neg e]
    have e2:(f.params.toNat:Int)≤((regs+v:Nat):Int)-((regs:Int)).toNat:=by simp only[Int.toNat_natCast];omega
    rw[decide_eq_true e2,Bool.or_true]
 ·intro j j1 j2 j3
  obtain⟨l',e⟩:=nvBlocks_at hs h3 h8 f.blocks l j j1 j2
  have e2:(nvCert f regs)[j]=homeL regs f.vregs.toNat:=by simp[nvCert]
  rw[show (nvCode f regs l).blocks[j]=nvBlock regs f.blocks[j] l' from e,e2]
  exact nvBlock_runs hs h3 h8 _ (List.getElem_mem _) l'
 ·intro b hb i hi hk
  have:=((h.blocks b hb).ins i hi).gives (by rw[hk];rfl)
  omega
end
theorem insSeq_mem {l:List UInt8} {v m:Nat} {x:Ins} (h:x∈(insSeq l v m).1):∃ l',x=(insOf l' v).1:=by
 induction m with
 |zero=>cases h
 |succ m ih =>
  rcases List.mem_append.1 h with h|h
  ·exact ih h
  ·simp at h;exact⟨_,h⟩
theorem blockSeq_mem {l:List UInt8} {v n m:Nat} {x:Block} (h:x∈(blockSeq l v n m).1):∃ l',x=(blockOf l' v n).1:=by
 induction m with
 |zero=>cases h
 |succ m ih =>
  rcases List.mem_append.1 h with h|h
  ·exact ih h
  ·simp at h;exact⟨_,h⟩
theorem vregsOf_le {pa vr:Nat} (h:vr < 12):1≤vregsOf pa vr∧vregsOf pa vr≤15∧pa % 5≤vregsOf pa vr:=by
 have:=Nat.mod_lt pa (show 5 > 0 by omega)
 have h2:vr % 28=vr:=Nat.mod_eq_of_lt (by omega)
 unfold vregsOf
 rw[h2]
 omega
theorem made_small (pa vr bl:Nat) (hvr:vr < 12) (l:List UInt8):Small (madeOf pa vr bl l):=by
 obtain⟨h1,h15,hp⟩:=vregsOf_le (pa:=pa) hvr
 have h5:=Nat.mod_lt pa (show 5 > 0 by omega)
 have h7:=Nat.mod_lt bl (show 7 > 0 by omega)
 have hlen:=blockSeq_len l (vregsOf pa vr) (1+bl % 7) (1+bl % 7)
 have hb:∀ x∈(madeOf pa vr bl l).blocks,BlockOk (vregsOf pa vr:Nat) (1+bl % 7:Nat) 32 InsOk x∧x.ins.length≤8∧∀ i∈x.ins,IntN i:=by
  intro x hx
  obtain⟨l',rfl⟩:=blockSeq_mem hx
  have h9:=nx_lt l' 9 (by omega)
  refine⟨⟨?_,?_,?_⟩,?_,?_⟩
  ·show (insSeq _ _ _).1.length≤32
   rw[insSeq_len];omega
  ·intro i hi
   obtain⟨l2,rfl⟩:=insSeq_mem hi
   exact insOf_ok l2 _ (by omega)
  ·exact endOf_ok _ _ _ (by omega) (by omega)
  ·show (insSeq _ _ _).1.length≤8
   rw[insSeq_len];omega
  ·intro i hi
   obtain⟨l2,rfl⟩:=insSeq_mem hi
   exact wf64.1 (insOf_fits l2 _ (by omega) (by omega)).1.n
 refine⟨⟨?_,?_,?_,?_,?_,?_,?_⟩,?_,λb hb'=>(hb b hb').2.1,?_,λb hb'=>(hb b hb').2.2⟩
 ·show (0:Int)≤(pa % 5:Nat);omega
 ·show ((pa % 5:Nat):Int)≤4;omega
 ·show ((pa % 5:Nat):Int)≤(vregsOf pa vr:Nat);omega
 ·show ((vregsOf pa vr:Nat):Int)≤32;omega
 ·show 1≤(blockSeq _ _ _ _).1.length;rw[hlen];omega
 ·show (blockSeq _ _ _ _).1.length≤16;rw[hlen];omega
 ·intro b hb'
  show BlockOk (vregsOf pa vr:Nat) ((blockSeq _ _ _ _).1.length:Int) 32 InsOk b
  rw[hlen]
  exact(hb b hb').1
 ·show (blockSeq _ _ _ _).1.length≤7;rw[hlen];omega
 ·show ((vregsOf pa vr:Nat):Int)≤15;omega
section
variable {regs:Nat} {f:Func} (hs:Small f) (h3:3≤regs) (h8:regs≤8)
include hs h3 h8
theorem nvPairs_fine:∀ l∈nvCert f regs,PairsFine l:=by
 have hv:=hs.v15
 intro x hx
 obtain⟨b,hb,rfl⟩:=List.mem_map.1 hx
 refine⟨by rw[home_len];omega,λp hp=>?_⟩
 obtain⟨v,hv,rfl⟩:=mem_home.1 hp
 show 0≤(v:Int)∧_
 constructor
 ·omega
 ·dsimp only;omega
theorem nvCode_len (l:List UInt8):(encCode (nvCode f regs l)).length≤30000:=by
 have hv:=hs.v15
 have hp:=hs.ok.p0
 have hp4:=hs.ok.p4
 have hpv:=hs.ok.pv
 have hlen:(nvBlocks regs f.blocks l).length=f.blocks.length:=nvBlocks_len hs h3 h8 _ _
 have h7:=hs.b7
 have h1:=flatL_len [f.params,(regs:Int),f.vregs] (by simp;omega)
 have h2:=flatL_len [((nvBlocks regs f.blocks l).length:Int)] (by simp;omega)
 have hb:∀ (g:List Block) (l:List UInt8),(∀ b∈g,b∈f.blocks)→((nvBlocks regs g l).flatMap encBlock).length≤4200*g.length:=by
  intro g
  induction g with
  |nil=>intro l _;simp[nvBlocks]
  |cons b r ih =>
   intro l h
   have hbf:=(nvBlock_ok hs h3 h8 b (h b (by simp)) l).2
   have hbl:=nvBlock_len hs h3 h8 b (h b (by simp)) l
   have e1:=flatL_len [((nvBlock regs b l).ins.length:Int)] (by simp;omega)
   have e2:=flatIns_len (nvBlock regs b l).ins hbf.ins
   have e3:=encEnd_len hbf.fin
   have e4:=ih (nvRest b l) (λx hx=>h x (by simp[hx]))
   simp only[nvBlocks,List.flatMap_cons,List.length_append,encBlock,List.length_cons,List.length_nil] at *
   omega
 have h4:=hb f.blocks l (λ_ h=>h)
 simp only[encCode,encBlocks,nvCode,List.length_append,List.length_cons,List.length_nil] at *
 omega
theorem nvTell_len (job lease:Nat) (hj:job < 16) (hl:lease < 18446744073709551616) (l:List UInt8):(tellBody job lease (nvCode f regs l) (nvCert f regs)).length≤65536:=by
 have h1:=nvCode_len hs h3 h8 l
 have h2:=leb_len10 (n:=job) (by omega)
 have h4:=leb_len10 hl
 have h5:=leb_len10 (n:=(encCode (nvCode f regs l)).length) (by omega)
 have h7:=hs.b7
 have hv:=hs.v15
 have hp:=nvPairs_fine hs h3 h8
 have h6:=flatL_len [((nvCert f regs).length:Int)] (by simp[nvCert];omega)
 have hc:∀ (g:List Block),((g.map λ_=>homeL regs f.vregs.toNat).flatMap encPairs).length≤310*g.length:=by
  intro g
  induction g with
  |nil=>simp
  |cons b r ih =>
   have e1:=flatL_len [((homeL regs f.vregs.toNat).length:Int)] (by rw[home_len];simp;omega)
   have e2:=flatPair_len (homeL regs f.vregs.toNat) (λp hp=>by
    obtain⟨v,hv,rfl⟩:=mem_home.1 hp
    show 0≤(v:Int)∧_
    constructor
    ·omega
    ·dsimp only;omega)
   rw[home_len] at e1 e2
   simp only[List.map_cons,List.flatMap_cons,List.length_append,encPairs,home_len,List.length_cons,List.length_nil] at *
   omega
 have h8':=hc f.blocks
 simp only[tellBody,encCert,nvCert,List.length_append,List.length_cons,List.length_nil] at *
 omega
end
structure SpecV where
 pa:Nat
 vr:Nat
 bl:Nat
 b:List UInt8
def kSpec:Kd SpecV:=Kd.iso (Kd.pair kB (Kd.pair kB (Kd.pair kB (Kd.slice kB8)))) (λs=>((s.pa:Int),(s.vr:Int),(s.bl:Int),s.b))
theorem kSpec_open {w:World} {ok:Nat→Prop} {s:SpecV} {cs:List Value} (h:kSpec.K w ok s cs):s.pa < 256∧s.vr < 256∧s.bl < 256∧∃ v,cs=[.int .u8 s.pa,.int .u8 s.vr,.int .u8 s.bl,v]∧Kd.SK kB8 w ok s.b v:=by
 obtain⟨_,_,rfl,⟨rfl,h1⟩,_,_,rfl,⟨rfl,h2⟩,_,_,rfl,⟨rfl,h3⟩,⟨v,rfl,h4⟩⟩:=h
 have h1:=wf8.1 h1
 have h2:=wf8.1 h2
 have h3:=wf8.1 h3
 dsimp only at h1 h2 h3
 exact⟨by omega,by omega,by omega,v,rfl,h4⟩
def specF (s:SpecV):Func:=madeOf s.pa (s.vr % 12) s.bl (s.b.take 200)
def funcsOf (fs:List SpecV):List Func:=if fs=[] then [madeOf 0 0 0 []] else (fs.take 5).map specF
theorem sk_spec {w:World} {ok:Nat→Prop} {l:List SpecV} {v:Value} (h:Kd.SK kSpec w ok l v) (j:Nat) (hj:j < l.length):∃ b off c A ca,v=.slice (some ⟨b,off,none⟩) l.length c∧l[j].pa < 256∧l[j].vr < 256∧l[j].bl < 256 ∧
  w.cell? ⟨b,off+j*4,none⟩=some (.int .u8 l[j].pa)∧w.cell? ⟨b,off+j*4+1,none⟩=some (.int .u8 l[j].vr)∧w.cell? ⟨b,off+j*4+2,none⟩=some (.int .u8 l[j].bl)∧w.cell? ⟨b,off+j*4+3,none⟩=some (.slice A l[j].b.length ca)∧l[j].b.length≤ca∧Bytes w A l[j].b:=by
 obtain⟨b,off,c,cs,rfl,_,ho,_,hk,hc⟩:=h.at_ j hj
 obtain⟨h1,h2,h3,v,rfl,h4⟩:=kSpec_open hk
 obtain⟨A,ca,rfl,h5,h6,-⟩:=sk_bytes h4
 exact⟨b,off,c,A,ca,rfl,h1,h2,h3,hc 0 (by decide),hc 1 (by decide),hc 2 (by decide),hc 3 (by decide),h5,h6⟩
theorem fn_more {wr w3:World} {base s:Nat} {ok okM:Nat→Prop} {xs:List Func} {V vM:Value} {F:Func} (hk:KRow kFunc wr base 99 ok xs V) (hb:Bel wr w3) (hM:KRow kBlock w3 s 97 okM F.blocks vM) (hs:wr.heap.size≤s) (hokM:∀ b,okM b→s≤b)
  (h1:(Lit.int .i64 F.params).wf=true) (h2:(Lit.int .i64 F.vregs).wf=true):KRow kFunc w3 base 99 (λb=>ok b∨okM b∨some b=vM.ownBlock) xs V∧kFunc.K w3 (λb=>ok b∨okM b∨some b=vM.ownBlock) F [.int .i64 F.params,.int .i64 F.vregs,vM]:=by
 have hk3:=hk.bel hb
 refine⟨hk3.more (λb hb=>.inl hb) ?_ ?_,kFunc_mk h1 h2 (hM.sk.stay (Stays.weaken λb hb=>.inr hb))⟩
 ·rintro b (h|h|h) e
  ·exact hk3.apart b h e
  ·have h3:=hokM b h
   have h4:=(hk.lt_own b e.symm).2
   omega
  ·have h3:=(hM.lt_own b h.symm).1
   have h4:=(hk.lt_own b e.symm).2
   omega
 ·rintro b (h|h|h)
  ·exact hk3.lt b h
  ·exact hM.lt b h
  ·exact(hM.lt_own b h.symm).2
theorem made_wf (pa vr bl:Nat) (hvr:vr < 12) (l:List UInt8):(Lit.int .i64 (madeOf pa vr bl l).params).wf=true∧(Lit.int .i64 (madeOf pa vr bl l).vregs).wf=true:=by
 have h:=(made_small pa vr bl hvr l).ok
 have h1:=h.p0;have h2:=h.p4;have h3:=h.pv;have h4:=h.v32
 exact⟨wf64.2 (by omega),wf64.2 (by omega)⟩
def FnR (w:World) (fs:List SpecV) (V:Value) (i:Value) (wr:World):Prop:=∃ (j:Nat) (ok:Nat→Prop),j≤fs.length∧i=.int .i64 j∧Bel w wr∧KRow kFunc wr w.heap.size 99 ok ((fs.take (min j 5)).map specF) V∧∀ b,ok b→w.heap.size≤b
def FnsPost (w:World) (fs:List SpecV) (e:Ending) (w':World):Prop:=Bel w w'∧∃ V ok,e=.returned V∧KRow kFunc w' w.heap.size 99 ok (funcsOf fs) V∧∀ b,ok b→w.heap.size≤b
theorem funcs_any (r k x a b c:Nat) (fs:List SpecV) (ok:Nat→Prop) (v:Value) (w:World) (hv:Kd.SK kSpec w ok fs v) :
  Calls Tryz.prog 20 #[.agg #[.int .u8 r,.int .u8 k,.int .u8 x,.int .u64 a,.int .u64 b,.int .u64 c,v]] w (FnsPost w fs):=by
 have HV:=Hm hv
 obtain⟨A,ca,rfl,hca,hcm⟩:=sk_form hv
 have hn63:fs.length≤9223372036854775807:=by unfold maxLen at hcm;omega
 clear hv
 go_enter Tryz.func20,Tryz.ntmps20
 go_wp2_with fail
 obtain⟨W,hW⟩:∃ W,W=(w.alloc (.cells #[.int .u8 r,.int .u8 k,.int .u8 x,.int .u64 a,.int .u64 b,.int .u64 c,.slice A fs.length ca] 27)).alloc (.cells #[] 99):=⟨_,rfl⟩
 have HB0:Hd (Bel w W):=⟨by rw[hW];exact bA (bA (bR w) _) _⟩
 have HK0:Hd (KRow kFunc W w.heap.size 99 (λ_=>False) [] (.slice (some ⟨w.heap.size+1,0,none⟩) 0 0)):=⟨by
  rw[hW]
  exact⟨⟨[],own_empty (w.alloc _) w.heap.size 99 3 (w.heap.size+1) (by simp) (by simp),rfl⟩,λ_ h=>h.elim,λ_ h=>h.elim⟩⟩
 rw[←hW]
 clear hW
 go_loopw [3,10] (λV i wr=>FnR w fs V i wr) (λ_ i _=>fs.length-(intOf i).toNat)
 case atStart=>exact⟨0,λ_=>False,Nat.zero_le _,rfl,HB0.o,HK0.o,λ_ h=>h.elim⟩
 case round =>
  obtain⟨j,ok',hj,rfl,hb,hk,hok⟩:=hrel
  obtain⟨ys,hys⟩:∃ ys,(fs.take (min j 5)).map specF=ys:=⟨_,rfl⟩
  rw[hys] at hk
  have HB:=Hm hb
  have HK:=Hm hk
  have HOk:=Hm hok
  obtain⟨Ao,co,rfl,-⟩:=hk.form
  clear hb hk hok
  by_cases hlt:j < fs.length
  ·obtain⟨bq,off,c',A1,c1,e,p1,p2,p3,z0,z1,z2,z3,hc1,hB1⟩:=sk_spec (sk_bel HV.o HB.o) j hlt
   simp only[Value.slice.injEq] at e
   obtain⟨rfl,-,rfl⟩:=e
   have htk:=List.take_succ_eq_append_getElem hlt
   generalize fs[j]=s at *
   obtain⟨pa,vr,bl,l⟩:=s
   dsimp only at *
   have HS:=Hm (And.intro hB1 htk)
   clear hB1 htk
   by_cases h5:j < 5
   ·go_wp2_with fail
    have hm:(min (l.length:Int) 200).toNat=(l.take 200).length:=by rw[List.length_take];omega
    have hv12:((vr:Int) % 12)=((vr % 12:Nat):Int):=rfl
    rw[hm,hv12]
    have hbX:Bel wr (wr.alloc (.cells #[.int .u8 pa,.int .u8 ((vr % 12:Nat):Int),.int .u8 bl,.slice A1 (l.take 200).length c1] 130)):=bA (bR wr) _
    generalize wr.alloc (.cells #[.int .u8 pa,.int .u8 ((vr % 12:Nat):Int),.int .u8 bl,.slice A1 (l.take 200).length c1] 130)=X at hbX⊢
    have hm12:vr % 12 < 12:=Nat.mod_lt _ (by omega)
    have hl200:(l.take 200).length≤200:=by rw[List.length_take];omega
    refine(made_any pa (vr % 12) bl p1 (by omega) p3 (l.take 200) hl200 A1 c1 (by rw[List.length_take];omega) X ((HS.o.1.below hbX).take 200)).mono ?_
    unfold MadePost
    rintro e w3 ⟨hb3,vM,okM,rfl,hM,hokM⟩
    obtain⟨hk3,hy3⟩:=fn_more HK.o (bT hbX hb3) hM hbX.size hokM (made_wf _ _ _ hm12 _).1 (made_wf _ _ _ hm12 _).2
    obtain⟨AM,cM,rfl,-⟩:=hM.form
    have HB3:=Hm (bT HB.o (bT hbX hb3))
    have HOk3:Hd (∀ b,(ok' b∨okM b∨some b=(Value.slice AM (madeOf pa (vr % 12) bl (l.take 200)).blocks.length cM).ownBlock)→w.heap.size≤b):=⟨by
     have h1:=HB.o.size
     have h2:=hbX.size
     rintro b (h|h|h)
     ·exact HOk.o b h
     ·have:=hokM b h;omega
     ·have:=(hM.lt_own b h.symm).1;omega⟩
    have HK3:=Hm (And.intro hk3 hy3)
    have hfl:ys.length=j:=by rw[←hys,List.length_map,List.length_take];omega
    have hnext:(fs.take (min (j+1) 5)).map specF=ys++[specF ⟨pa,vr,bl,l⟩]:=by
     rw[←hys,show min (j+1) 5=j+1 by omega,show min j 5=j by omega,HS.o.2,List.map_append]
     rfl
    have HNx:=Hm hnext
    have hsp:madeOf pa (vr % 12) bl (l.take 200)=specF ⟨pa,vr,bl,l⟩:=rfl
    rw[hsp] at HK3⊢ HOk3
    clear hnext hys
    generalize specF ⟨pa,vr,bl,l⟩=F at *
    rw[hfl]
    clear hbX hb3 hM hokM hk3 hy3 hm hv12 z0 z1 z2 z3 hc1
    go_wp2_with (first
     |(
       at_builtin
       refine appK iFunc Tryz.underlying34 rfl (.tmp 29) (.tmp 32) rfl (v:=.slice Ao j co) rfl (by rw[←hfl];exact HK3.o.1.bel (bA (bR _) (.cells #[.int .i64 F.params,.int .i64 F.vregs,.slice AM F.blocks.length cM] 99))) (show w.heap.size≤(w3.alloc _).heap.size by have:=HB3.o.size;simp only[World.size_alloc];omega) (q:=w3.heap.size) rfl (row_new w3 [.int .i64 F.params,.int .i64 F.vregs,.slice AM F.blocks.length cM] 99 (0,0)) (kFunc.stay (Stays.below (bA (bR _) _)) HK3.o.2) (by rw[hfl];omega) ?_
       intro v5 w5 hk5 hg5 hw5
       have HK5:=Hm hk5
       have HB5:Hd (Bel w w5):=⟨bG (bA HB3.o (.cells #[.int .i64 F.params,.int .i64 F.vregs,.slice AM F.blocks.length cM] 99)) hg5 (λg hg=>by have:=(HK.o.lt_own g (by rw[hfl];exact hg)).1;omega)⟩
       obtain⟨A5,c5,rfl,-⟩:=hk5.form
       clear hk5 hg5 hw5)
     |fail)
    go_roundw
    case rel=>exact⟨j+1,_,by omega,by go_num,HB5.o,by rw[HNx.o];have h9:=HK5.o;rw[List.length_append,hfl] at h9;exact h9,HOk3.o⟩
    case measure=>simp[intOf];omega
   ·go_wp2_with fail
    go_roundw
    case rel=>exact⟨j+1,ok',by omega,by go_num,bA HB.o _,by rw[show min (j+1) 5=min j 5 by omega,hys];exact HK.o.bel (bA (bR _) _),HOk.o⟩
    case measure=>simp[intOf];omega
  ·obtain rfl:j=fs.length:=by omega
   by_cases h0:fs=[]
   ·subst h0
    have hy0:ys=[]:=by rw[←hys];rfl
    subst hy0
    go_wp2_with fail
    have hl:(([]:List UInt8).length)≤200:=by simp
    refine(made_any 0 0 0 (by omega) (by omega) (by omega) [] hl none 0 (by simp) wr (Bytes.nil _ _)).mono ?_
    unfold MadePost
    rintro e w3 ⟨hb3,vM,okM,rfl,hM,hokM⟩
    obtain⟨hk3,hy3⟩:=fn_more HK.o hb3 hM (Nat.le_refl _) hokM (made_wf 0 0 0 (by omega) []).1 (made_wf 0 0 0 (by omega) []).2
    obtain⟨AM,cM,rfl,-⟩:=hM.form
    have HB3:=Hm (bT HB.o hb3)
    have HOk3:Hd (∀ b,(ok' b∨okM b∨some b=(Value.slice AM (madeOf 0 0 0 []).blocks.length cM).ownBlock)→w.heap.size≤b):=⟨by
     have h1:=HB.o.size
     rintro b (h|h|h)
     ·exact HOk.o b h
     ·have:=hokM b h;omega
     ·have:=(hM.lt_own b h.symm).1;omega⟩
    have HK3:=Hm (And.intro hk3 hy3)
    have hfo:funcsOf []=[madeOf 0 0 0 []]:=rfl
    have HFo:=Hm hfo
    clear hb3 hM hokM hk3 hy3 hys hfo
    generalize madeOf 0 0 0 []=F at *
    go_wp2_with (first
     |(
       at_builtin
       refine appK iFunc Tryz.underlying34 rfl (.tmp 38) (.tmp 41) rfl (v:=.slice Ao 0 co) rfl (HK3.o.1.bel (bA (bR _) (.cells #[.int .i64 F.params,.int .i64 F.vregs,.slice AM F.blocks.length cM] 99))) (show w.heap.size≤(w3.alloc _).heap.size by have:=HB3.o.size;simp only[World.size_alloc];omega) (q:=w3.heap.size) rfl (row_new w3 [.int .i64 F.params,.int .i64 F.vregs,.slice AM F.blocks.length cM] 99 (0,0)) (kFunc.stay (Stays.below (bA (bR _) _)) HK3.o.2) (by simp) ?_
       intro v5 w5 hk5 hg5 hw5
       have HK5:=Hm hk5
       have HB5:Hd (Bel w w5):=⟨bG (bA HB3.o (.cells #[.int .i64 F.params,.int .i64 F.vregs,.slice AM F.blocks.length cM] 99)) hg5 (λg hg=>by have:=(HK.o.lt_own g hg).1;omega)⟩
       obtain⟨A5,c5,rfl,-⟩:=hk5.form
       clear hk5 hg5 hw5)
     |fail)
    exact bodyPost_ret (v:=.slice A5 1 c5) (by simp[results,Tryz.results20,go_sem]) rfl ⟨HB5.o,_,_,rfl,by rw[HFo.o];exact HK5.o,HOk3.o⟩
   ·have hyl:¬(ys.length:Int)=0:=by
     have h1:0 < fs.length:=List.length_pos_iff.2 h0
     rw[←hys,List.length_map,List.length_take]
     omega
    have hfo:funcsOf fs=ys:=by
     unfold funcsOf
     rw[if_neg h0,←hys]
     rcases Nat.le_total fs.length 5 with h|h
     ·rw[Nat.min_eq_left h,List.take_length,List.take_of_length_le h]
     ·rw[Nat.min_eq_right h]
    have HFin:Hd (FnsPost w fs (.returned (.slice Ao ys.length co)) wr):=⟨⟨HB.o,_,_,rfl,by rw[hfo];exact HK.o,HOk.o⟩⟩
    clear hys hfo
    go_wp2_with fail
    exact bodyPost_ret (v:=.slice Ao ys.length co) (by simp[results,Tryz.results20,go_sem]) rfl HFin.o
section
variable {w w1:World} {F:Nat→Prop}
theorem oD (h:Only w w1 F):Only w w1.drew F:=⟨h.os,h.tape,h.output,h.size,h.block⟩
theorem oA (h:Only w w1 F) (o:Obj):Only w (w1.alloc o) F:=h.trans (Only.bel (F:=F) (bA (bR _) o)) (λ_ _ e=>e)
theorem oC (h:Only w w1 F) {p:Nat} (hp:F p) (k:Nat) (v:Value):Only w (w1.setCell ⟨p,k,none⟩ v) F :=
 h.trans (Only.grown (F:=λb=>b=p) (grownBy_cell w1 p k v) (λg e=>by cases e;rfl)) (λb _ e=>by rw[e];exact hp)
theorem oN (h:Only w w1 F) {p:Nat} (hp:w.heap.size≤p) (k:Nat) (v:Value):Only w (w1.setCell ⟨p,k,none⟩ v) F :=
 h.trans (Only.grown (F:=λb=>b=p) (grownBy_cell w1 p k v) (λg e=>by cases e;rfl)) (λb hb e=>by omega)
theorem oB {w2:World} (h:Only w w1 F) (k:Bel w1 w2):Only w w2 F:=h.trans (Only.bel (F:=F) k) (λ_ _ e=>e)
end
theorem has_nil (x:Int) (hx:x=0∨x=1) (w:World):Calls Tryz.prog 221 #[.agg #[.slice none 0 0],.int .i64 x] w λe w'=>e=.returned (.bool false)∧Bel w w':=by
 rcases hx with rfl|rfl
 all_goals
  go_enter Tryz.func221,Tryz.ntmps221
  go_wp2_with fail
  go_ret
  exact⟨rfl,bA (bR w) _⟩
def bitB (k x:Nat):Bool:=k.testBit x
theorem has_one (k x:Nat) (hk:k < 4) (hx:x < 2) (b c:Nat) (w:World) (hc:w.cell? ⟨b,0,none⟩=some (.int .u64 k)):Calls Tryz.prog 221 #[.agg #[.slice (some ⟨b,0,none⟩) 1 c],.int .i64 x] w λe w'=>e=.returned (.bool (bitB k x))∧Bel w w':=by
 have hb:=World.block_lt_of_cell? w _ hc
 dsimp only at hb
 have:(k=0∨k=1∨k=2∨k=3)∧(x=0∨x=1):=by omega
 obtain⟨rfl|rfl|rfl|rfl,rfl|rfl⟩:=this
 all_goals
  clear hk hx
  go_enter Tryz.func221,Tryz.ntmps221
  go_wp2_with fail
  go_ret
  exact⟨rfl,bA (bR w) _⟩
def OwnU (w:World) (base:Nat) (v:Value) (l:List Nat):Prop:=w.ownsRow base 22 1 v l.length (l.map λk:Nat=>Value.int .u64 k)
theorem iU:EI 22 1 8 (.int .u64 0):=EI.mk (by kernel_rfl) rfl (by omega) (by omega)
theorem ownU_one {w:World} {base k:Nat} {v:Value} (h:OwnU w base v [k]):∃ g c cur,v=.slice (some ⟨g,0,none⟩) 1 c∧base≤g∧1≤c∧w.heap[g]?=some (.cells cur 22 (0,0))∧w.cell? ⟨g,0,none⟩=some (.int .u64 k)∧w.frozen? ⟨g,0,none⟩=false∧g < w.heap.size:=by
 have h0:=h
 rcases h.2 with ⟨-,h⟩|⟨g,c,cur,rfl,hb,hh,hn,hm,h5,h6⟩
 ·simp at h
 ·refine⟨g,c,cur,rfl,hb,hn,hh,?_,?_,(Array.getElem?_eq_some_iff.1 hh).1⟩
  ·have:=h0.cellAt 0 (by simp)
   simpa using this
  ·unfold World.frozen?;rw[hh];simp
theorem ownU_set {w:World} {base k g c:Nat} (h:OwnU w base (.slice (some ⟨g,0,none⟩) 1 c) [k]) (n:Nat):OwnU (w.setCell ⟨g,0,none⟩ (.int .u64 n)) base (.slice (some ⟨g,0,none⟩) 1 c) [n]:=by
 refine⟨by simp,.inr ?_⟩
 rcases h.2 with ⟨h,-⟩|⟨g',c',cur,e,hb,hh,hn,hm,h5,h6⟩
 ·cases h
 ·simp only[Value.slice.injEq,Option.some.injEq,Addr.mk.injEq,and_true,true_and] at e
  obtain⟨rfl,-,rfl⟩:=e
  refine⟨g,c,cur.set! 0 (.int .u64 n),rfl,hb,by rw[Go.Joins.block_setCell hh _];rfl,hn,hm,by simpa using h5,?_⟩
  simp only[List.length_cons,List.length_nil,Nat.zero_add,Nat.mul_one,List.map_cons,List.map_nil] at h6⊢
  cases hc:cur.toList with
  |nil=>rw[hc] at h6;simp at h6
  |cons x r=>simp[Array.set!,hc]
theorem put_nil (x:Nat) (hx:x < 2) (p o:Nat) (cs:List Value) (ty:TypeId) (w:World) (hp:w.heap[p]?=some (.cells cs.toArray ty (0,0))) (hv:cs[o]?=some (.slice none 0 0)) :
  Calls Tryz.prog 189 #[.pointer (some ⟨p,o,none⟩),.int .i64 x] w λe w'=>e=.returned (.bool true)∧∃ v,Only w w' (λb=>b=p)∧w'.heap[p]?=some (.cells (cs.set o v).toArray ty (0,0))∧OwnU w' w.heap.size v [2 ^ x]:=by
 have hpz:=(Array.getElem?_eq_some_iff.1 hp).1
 have c0:w.cell? ⟨p,o,none⟩=some (.slice none 0 0):=by unfold World.cell?;rw[hp];simpa using hv
 have f0:w.frozen? ⟨p,o,none⟩=false:=by unfold World.frozen?;rw[hp];simp
 have HP:=Hm (And.intro hp hv)
 clear hp hv
 have hx2:x=0∨x=1:=by omega
 rcases hx2 with rfl|rfl
 all_goals
  clear hx
  go_enter Tryz.func189,Tryz.ntmps189
  go_wp2_with fail
  refine(has_nil _ (by simp) _).mono ?_
  rintro e w1 ⟨rfl,hb1⟩
  have hz1:=hb1.size
  have HB1:=Hm hb1
  have c1:=bCell hb1 c0
  have f1:=bFree hb1 c0 f0
  clear hb1
  go_wp2_with fail
  refine wp_loop_rounds 2 ?_
  rw[rounds_succ]
  go_wp2_with (at_builtin;refine app0 iU Tryz.underlying289 rfl (.tmp 30) (.tmp 31) rfl rfl (own_none _ w.heap.size 22 1 0 rfl) (show w.heap.size≤(w1.alloc _).heap.size by simp;omega) (A:=some ⟨w1.heap.size,0,none⟩) (m:=1) (c:=1) rfl (row_new w1 [.int .u64 0] 22 (0,0)) rfl (by omega) ?_;intro v2 w2 hb2 ho2;obtain⟨g,c2,cur,rfl,hg,hgc,hh,hcell,hfr,hgz⟩:=ownU_one (k:=0) ho2;have c3:=bCell (bUA hb2) c1;have f3:=bFree (bUA hb2) c1 f1;have hz2:=hb2.size;have HB2:=Hm (bT HB1.o (bUA hb2));have HO:=Hm ho2;clear hb2 ho2)
  have hgp:¬g=p:=by omega
  have kw0:IntKind.i64.wrap 0=0:=rfl
  have kw1:IntKind.i64.wrap 1=1:=rfl
  rw[rounds_succ]
  go_wp2_with fail
  refine rgn [.rd 0,.rd 1,.rd 2,.rd 3,.rd 4,.rd 5,.rd 6,.rd 7,.rd 8,.rd 9,.rd 10,.rd 11,.rd 12,.hv 13 []] (n:=48) rfl ?_
  iterate 13 (refine line_rd rfl (λK hK=>?_);go_simp;refine hK _ ?_;clear hK K)
  refine line_hv rfl ?_
  go_wp2_with fail
  refine⟨?_,?_⟩
  ·exact trivial
  unfold Line
  go_wp2_with fail
  go_ret
  exact⟨rfl,_,oD (oN (oC (F:=λb=>b=p) (Only.bel HB2.o) rfl _ _) hg _ _),hset (set_at (bHeap HB2.o HP.o.1) o _) (by omega),own_below (ownU_set (own_only HO.o (oC (Only.refl _ (λb=>b=p)) rfl _ _) (λb hb e=>by cases hb;exact hgp e)) _) (bD (bR _))⟩
theorem put_had (k x:Nat) (hk:k < 4) (hx:x < 2) (hr:bitB k x=true) (p o:Nat) (v:Value) (base:Nat) (w:World) (c0:w.cell? ⟨p,o,none⟩=some v) (ho:OwnU w base v [k]) :
  Calls Tryz.prog 189 #[.pointer (some ⟨p,o,none⟩),.int .i64 x] w λe w'=>e=.returned (.bool false)∧Bel w w':=by
 obtain⟨g,c,cur,rfl,hg,hgc,hh,hcell,hfr,hgz⟩:=ownU_one ho
 have hpz:=World.block_lt_of_cell? w _ c0
 dsimp only at hpz
 have HH:=Hm (λw' h=>has_one k x hk hx g c w' h)
 rw[hr] at HH
 have HC:=Hm hcell
 have:x=0∨x=1:=by omega
 clear hk hx hr ho hcell
 rcases this with rfl|rfl
 all_goals
  go_enter Tryz.func189,Tryz.ntmps189
  go_wp2_with fail
  refine(HH.o _ HC.o).mono ?_
  rintro e w1 ⟨rfl,hb1⟩
  have HB1:=Hm hb1
  clear hb1
  go_wp2_with fail
  go_ret
  exact⟨rfl,HB1.o⟩
theorem put_new (k x:Nat) (hk:k < 4) (hx:x < 2) (hr:bitB k x=false) (p o:Nat) (v:Value) (base:Nat) (w:World) (c0:w.cell? ⟨p,o,none⟩=some v) (ho:OwnU w base v [k]) :
  Calls Tryz.prog 189 #[.pointer (some ⟨p,o,none⟩),.int .i64 x] w λe w'=>e=.returned (.bool true)∧Only w w' (λb=>v.ownBlock=some b)∧OwnU w' base v [k+2 ^ x]:=by
 obtain⟨g,c,cur,rfl,hg,hgc,hh,hcell,hfr,hgz⟩:=ownU_one ho
 have hpz:=World.block_lt_of_cell? w _ c0
 dsimp only at hpz
 have HH:=Hm (λw' h=>has_one k x hk hx g c w' h)
 rw[hr] at HH
 have HO:=Hm ho
 have kw0:IntKind.i64.wrap 0=0:=rfl
 have kw1:IntKind.i64.wrap 1=1:=rfl
 have:(k=0∨k=1∨k=2∨k=3)∧(x=0∨x=1):=by omega
 clear hk hx ho
 obtain⟨rfl|rfl|rfl|rfl,rfl|rfl⟩:=this
 all_goals first
  |(exact absurd hr (by decide))
  |(
    clear hr
    go_enter Tryz.func189,Tryz.ntmps189
    go_wp2_with fail
    refine(HH.o _ hcell).mono ?_
    rintro e w1 ⟨rfl,hb1⟩
    have hz1:=hb1.size
    have c1:=bCell hb1 c0
    have d1:=bCell hb1 hcell
    have f1:=bFree hb1 hcell hfr
    have HB1:=Hm hb1
    clear hb1 HH
    go_wp2_with fail
    refine wp_loop_rounds 1 ?_
    rw[rounds_succ]
    go_wp2_with fail
    refine rgn [.rd 0,.rd 1,.rd 2,.rd 3,.rd 4,.rd 5,.rd 6,.rd 7,.rd 8,.rd 9,.rd 10,.rd 11,.rd 12,.hv 13 []] (n:=48) rfl ?_
    iterate 13 (refine line_rd rfl (λK hK=>?_);go_simp;refine hK _ ?_;clear hK K)
    refine line_hv rfl ?_
    go_wp2_with fail
    refine⟨?_,?_⟩
    ·exact trivial
    unfold Line
    go_wp2_with fail
    go_ret
    exact⟨rfl,oD (oC (F:=λb=>some g=some b) (Only.bel HB1.o) rfl _ _),own_below (ownU_set (own_below HO.o HB1.o) _) (bD (bR _))⟩)
theorem cut_one (k x:Nat) (hk:k < 4) (hx:x < 2) (hr:bitB k x=true) (p o:Nat) (v:Value) (base:Nat) (w:World) (c0:w.cell? ⟨p,o,none⟩=some v) (ho:OwnU w base v [k]) :
  Calls Tryz.prog 233 #[.pointer (some ⟨p,o,none⟩),.int .i64 x] w λe w'=>e=.returned (.bool true)∧Only w w' (λb=>v.ownBlock=some b)∧OwnU w' base v [k-2 ^ x]:=by
 obtain⟨g,c,cur,rfl,hg,hgc,hh,hcell,hfr,hgz⟩:=ownU_one ho
 have hpz:=World.block_lt_of_cell? w _ c0
 dsimp only at hpz
 have HH:=Hm (λw' h=>has_one k x hk hx g c w' h)
 rw[hr] at HH
 have HO:=Hm ho
 have kw0:IntKind.i64.wrap 0=0:=rfl
 have kw1:IntKind.i64.wrap 1=1:=rfl
 have:(k=0∨k=1∨k=2∨k=3)∧(x=0∨x=1):=by omega
 clear hk hx ho
 obtain⟨rfl|rfl|rfl|rfl,rfl|rfl⟩:=this
 all_goals first
  |(exact absurd hr (by decide))
  |(
    clear hr
    go_enter Tryz.func233,Tryz.ntmps233
    go_wp2_with fail
    refine(HH.o _ hcell).mono ?_
    rintro e w1 ⟨rfl,hb1⟩
    have hz1:=hb1.size
    have c1:=bCell hb1 c0
    have d1:=bCell hb1 hcell
    have f1:=bFree hb1 hcell hfr
    have HB1:=Hm hb1
    clear hb1 HH
    go_wp2_with fail
    refine rgn [.rd 0,.rd 1,.rd 2,.rd 3,.rd 4,.rd 5,.rd 6,.rd 7,.rd 8,.rd 9,.rd 10,.rd 11,.rd 12,.hv 13 []] (n:=26) rfl ?_
    iterate 13 (refine line_rd rfl (λK hK=>?_);go_simp;refine hK _ ?_;clear hK K)
    refine line_hv rfl ?_
    go_wp2_with fail
    refine⟨?_,?_⟩
    ·exact trivial
    unfold Line
    go_wp2_with fail
    go_ret
    exact⟨rfl,oD (oC (F:=λb=>some g=some b) (Only.bel HB1.o) rfl _ _),own_below (ownU_set (own_below HO.o HB1.o) _) (bD (bR _))⟩)
end Go.Proofs.YtjkgligohegaeaaGreatDoor
