/- Lemmas of the row. -/
import Derived.Deep.AppendSrc
import Derived.Deep.Draws
import Derived.Laws.AppendOwn
import Derived.Laws.AppendOwnNone
import Derived.Laws.BitsAllLaws
import Derived.Laws.Rows
import Derived.Lib.SmallJoins
import Derived.ProofKit
import Derived.Test.YtjkgligohegaeaaGreatDoorProg
import Derived.WalkKit
import Derived.WalkSpells
set_option linter.all false
set_option maxRecDepth 20000
set_option maxHeartbeats 12800000
namespace Go.Proofs.YtjkgligohegaeaaGreatDoor
open Go.RowKit
structure Hd (p:Prop):Prop where mk :: (o:p)
theorem Hm {p:Prop} (h:p):Hd p:=⟨h⟩
def Row (w:World) (A:Option Addr) (vs:List Value):Prop :=
 ∀ j (h:j < vs.length),∃ b off,A=some ⟨b,off,none⟩∧w.cell? ⟨b,off+j,none⟩=some vs[j]
def byteV (c:UInt8):Value:=.int .u8 c.toNat
def Bytes (w:World) (A:Option Addr) (l:List UInt8):Prop:=Row w A (l.map byteV)
theorem ret_int {k:IntKind} {a b:Int} (h:a=b):Ending.returned (.int k a)=.returned (.int k b):=by rw[h]
theorem Row.nil (w:World) (A:Option Addr):Row w A []:=λj h=>absurd h (by simp)
theorem Bytes.nil (w:World) (A:Option Addr):Bytes w A []:=Row.nil w A
theorem Bytes.at_ {w:World} {A:Option Addr} {l:List UInt8} (h:Bytes w A l) (j:Nat) (hj:j < l.length) :
  ∃ b off,A=some ⟨b,off,none⟩∧w.cell? ⟨b,off+j,none⟩=some (.int .u8 (l[j].toNat:Int)):=by
 obtain⟨b,off,e,hc⟩:=h j (by simpa using hj)
 exact⟨b,off,e,by rw[hc];simp[byteV]⟩
theorem Row.below {w w':World} {A:Option Addr} {vs:List Value} (h:Row w A vs) (hb:Below w.heap.size w w'):Row w' A vs:=λj hj=>by
 obtain⟨b,off,e,hc⟩:=h j hj
 exact⟨b,off,e,by rw[hb.cell (World.block_lt_of_cell? w _ hc)];exact hc⟩
theorem Row.grown {w w':World} {A:Option Addr} {vs:List Value} {row:Option Nat} (h:Row w A vs) (hg:w.grownBy w' row) (hA:∀ a,A=some a→some a.block≠row):Row w' A vs:=λj hj=>by
 obtain⟨b,off,e,hc⟩:=h j hj
 exact⟨b,off,e,hg.cell (a:=⟨b,off+j,none⟩) hc (show some b≠row from hA _ e)⟩
theorem Bytes.below {w w':World} {A:Option Addr} {l:List UInt8} (h:Bytes w A l) (hb:Below w.heap.size w w'):Bytes w' A l:=Row.below h hb
theorem Bytes.take {w:World} {A:Option Addr} {l:List UInt8} (h:Bytes w A l) (n:Nat):Bytes w A (l.take n):=λj hj=>by
 have hj':j < l.length:=by simp at hj;omega
 obtain⟨b,off,e,hc⟩:=h.at_ j hj'
 exact⟨b,off,e,by rw[hc];simp[byteV]⟩
theorem Bytes.drop {w:World} {ad:Addr} {l:List UInt8} (h:Bytes w (some ad) l) (n:Nat):Bytes w (some (ad.add n)) (l.drop n):=λj hj=>by
 have hj':n+j < l.length:=by simp at hj;omega
 obtain⟨b,off,e,hc⟩:=h.at_ (n+j) hj'
 simp only[Option.some.injEq] at e
 subst e
 refine⟨b,off+n,?_,by rw[Nat.add_assoc,hc];simp[byteV]⟩
 unfold Addr.add
 split<;>simp_all
theorem row_block {w:World} {b:Nat} {off:Nat} {cs:Array Value} {t:TypeId} {fz:Nat × Nat} {vs:List Value} (hb:w.heap[b]?=some (.cells cs t fz))
  (h:∀ j (h:j < vs.length),cs[off+j]?=some vs[j]):Row w (some ⟨b,off,none⟩) vs:=λj hj =>
 ⟨b,off,rfl,by unfold World.cell?;rw[hb];simpa using h j hj⟩
theorem heap_new (w:World) (o:Obj):(w.alloc o).heap[w.heap.size]?=some o:=by
 show (w.heap.push o)[w.heap.size]?=some o
 simp
theorem heap_old (w:World) (o:Obj) (b:Nat) (h:b < w.heap.size):(w.alloc o).heap[b]?=w.heap[b]?:=Below.heap_alloc w o b h
theorem row_new (w:World) (vs:List Value) (t:TypeId) (fz:Nat × Nat):Row (w.alloc (.cells vs.toArray t fz)) (some ⟨w.heap.size,0,none⟩) vs :=
 row_block (heap_new _ _) (by intro j hj;simp[hj])
theorem own_row {w:World} {base n:Nat} {e:TypeId} {v:Value} {xs:List Value} (h:w.ownsRow base e 1 v n xs):∃ A c,v=.slice A n c∧Row w A xs∧xs.length=n∧(∀ a,A=some a→base≤a.block)∧n≤c∧n≤maxLen:=by
 have hl:xs.length=n:=by simpa using h.1
 rcases h.2 with ⟨rfl,rfl⟩|⟨g,cap,cur,rfl,hb,hh,hn,hm,_⟩
 ·obtain rfl:xs=[]:=List.eq_nil_of_length_eq_zero hl
  exact⟨none,0,rfl,Row.nil _ _,rfl,(λa h=>by cases h),Nat.le_refl _,Nat.zero_le _⟩
 ·refine⟨_,cap,rfl,λj hj=>⟨g,0,rfl,?_⟩,hl,(λa h=>by cases h;exact hb),hn,Nat.le_trans hn hm⟩
  rw[Nat.zero_add,h.cellAt j (by omega)]
  exact List.getElem?_eq_getElem hj
theorem below_undrew {w w':World} (h:Below w.drew.heap.size w.drew w'):Below w.heap.size w w':=⟨h.os,h.tape,h.output,h.size,h.block⟩
theorem own_form {w:World} {base n size:Nat} {e:TypeId} {v:Value} {xs:List Value} (h:w.ownsRow base e size v n xs) (hn:0 < n):∃ g cap,v=.slice (some ⟨g,0,none⟩) n cap∧base≤g:=by
 rcases h.2 with ⟨_,h⟩|⟨g,cap,cur,h,hb,_⟩
 ·omega
 ·exact⟨g,cap,h,hb⟩
theorem byte_one {l:List UInt8}:∀ u∈l.map byteV,u.oneCell'=true:=by
 intro u hu
 obtain⟨c,_,rfl⟩:=List.mem_map.1 hu
 rfl
section
variable {P:Program} {w:World} {ops:Array Oper} {rest:List Oper} {o:Oper} {a:Act} {Q:Exit→Act→World→Prop}
theorem wp_append_nil (s x:Operand) (t:TypeId) (ho:o.op=.call { callee:=.builtin .append,args:=#[s,x],argTypes:=#[t,t] })
  (base:Nat) (e:TypeId) (i:TypeInfo) (size:Nat) (ht:P.underlying t=some (.slice e)) (hi:P.info? e=some i)
  (v:Value) (n:Nat) (xs:List Value) (hs:a.eval s=v) (hown:w.ownsRow base e size v n xs) (c:Nat) (hx:a.eval x=.slice none 0 c) (K:Act→World→Prop)
  (h:K (a.put o.dst v) w):o.wp P a w K Q:=by
 have hrun:(Builtin.append_ #[t,t] o.type #[v,.slice none 0 c]).run P w=.ok v w:=by
  rcases hown.2 with ⟨rfl,rfl⟩|⟨g,cap,cur,rfl,_,_,hnc,_⟩
  ·simp[Builtin.append_,run_underlying ht,sizeOf,typeInfo,hi,Builtin.lenOf,Builtin.firstCells]
  ·simp[Builtin.append_,run_underlying ht,sizeOf,typeInfo,hi,Builtin.lenOf,Builtin.firstCells,hnc,storeCells]
 unfold Oper.wp
 simp[execOp,ho,resolve,invoke,builtin,hs,hx,hrun,Result.andThen]
 exact h
theorem wpList_append_row (hgd:o.guard=none) (s x:Operand) (t:TypeId) (ho:o.op=.call { callee:=.builtin .append,args:=#[s,x],argTypes:=#[t,t] })
  (base:Nat) (e:TypeId) (i:TypeInfo) (z:Value) (bytes:Nat) (ht:P.underlying t=some (.slice e)) (hi:P.info? e=some i) (hz:i.zero=some z)
  (hsize:i.size=1) (hby:i.bytes=bytes) (hzs:z.cells.size=1)
  (v:Value) (n:Nat) (xs:List Value) (hs:a.eval s=v) (hown:w.ownsRow base e 1 v n xs)
  (A:Option Addr) (m c:Nat) (news:List Value) (hx:a.eval x=.slice A m c) (hl:news.length=m) (hnews:Row w A news) (h1:∀ u∈news,u.oneCell'=true)
  (hbytes:(n+m)*bytes≤140737488355328) (h63:n+m≤maxLen) (hbase:base≤w.heap.size)
  (h:∀ v' w',w'.ownsRow base e 1 v' (n+m) (xs++news)→w.grownBy w' v.ownBlock→wpList P ops Q rest (a.put o.dst v') w'):wpList P ops Q (o :: rest) a w:=by
 cases A with
 |none =>
  have hm:m=0:=by
   rcases Nat.eq_zero_or_pos m with h0|h0
   ·exact h0
   ·obtain⟨b,off,e',_⟩:=hnews 0 (by omega)
    cases e'
  subst hm
  obtain rfl:news=[]:=List.eq_nil_of_length_eq_zero hl
  refine wpList_plain hgd λK hK=>?_
  exact wp_append_nil s x t ho base e i 1 ht hi v n xs hs hown c hx K (hK _ _ (h _ _ (by simpa using hown) ⟨rfl,rfl,rfl,Nat.le_refl _,λ_ _ _=>rfl⟩))
 |some ad =>
  refine wpList_append_own w hgd s x t ho base e i z 1 bytes ht hi hz hsize hby hzs (by omega) v n xs hs hown ad m c news hx (by omega) ?_ h1 h63 hbytes hbase λv' w' h1 h2 _=>h v' w' h1 h2
  intro j u hu
  obtain⟨hj,rfl⟩:=List.getElem?_eq_some_iff.1 hu
  obtain⟨b',off',e',hc⟩:=hnews j hj
  simp only[Option.some.injEq] at e'
  subst e'
  rw[show (⟨b',off',none⟩:Addr).add j=⟨b',off'+j,none⟩ from by unfold Addr.add;split<;>simp_all]
  exact hc
end
def RowIn (w:World) (ok:Nat→Prop) (A:Option Addr) (vs:List Value):Prop :=
 ∀ j (h:j < vs.length),∃ b off,A=some ⟨b,off,none⟩∧ok b∧w.cell? ⟨b,off+j,none⟩=some vs[j]
theorem RowIn.row {w:World} {ok:Nat→Prop} {A:Option Addr} {vs:List Value} (h:RowIn w ok A vs):Row w A vs:=λj hj=>by
 obtain⟨b,off,e,_,hc⟩:=h j hj
 exact⟨b,off,e,hc⟩
theorem RowIn.of {w:World} {ok:Nat→Prop} {A:Option Addr} {vs:List Value} (h:Row w A vs) (hA:∀ a,A=some a→ok a.block):RowIn w ok A vs:=λj hj=>by
 obtain⟨b,off,e,hc⟩:=h j hj
 exact⟨b,off,e,hA _ e,hc⟩
def Stays (w w':World) (ok ok':Nat→Prop):Prop:=∀ b,ok b→b < w.heap.size→ok' b∧w'.heap[b]?=w.heap[b]?
theorem cell_of_heap {w w':World} {a:Addr} (h:w'.heap[a.block]?=w.heap[a.block]?):w'.cell? a=w.cell? a:=by
 unfold World.cell?
 rw[h]
theorem RowIn.stay {w w':World} {ok ok':Nat→Prop} {A:Option Addr} {vs:List Value} (h:RowIn w ok A vs) (s:Stays w w' ok ok'):RowIn w' ok' A vs:=λj hj=>by
 obtain⟨b,off,e,ho,hc⟩:=h j hj
 obtain⟨h1,h2⟩:=s b ho (World.block_lt_of_cell? w _ hc)
 exact⟨b,off,e,h1,by rw[cell_of_heap (a:=⟨b,off+j,none⟩) h2];exact hc⟩
theorem RowIn.nil (w:World) (ok:Nat→Prop) (A:Option Addr):RowIn w ok A []:=λj h=>absurd h (by simp)
structure Kd (α:Type) where
 size:Nat
 pos:0 < size
 K:World→(Nat→Prop)→α→List Value→Prop
 len:∀ {w:World} {ok:Nat→Prop} {x:α} {cs:List Value},K w ok x cs→cs.length=size
 one:∀ {w:World} {ok:Nat→Prop} {x:α} {cs:List Value},K w ok x cs→∀ u∈cs,u.oneCell'=true
 stay:∀ {w w':World} {ok ok':Nat→Prop} {x:α} {cs:List Value},Stays w w' ok ok'→K w ok x cs→K w' ok' x cs
namespace Kd
def All {α:Type} (k:Kd α) (w:World) (ok:Nat→Prop):List α→List Value→Prop
 |[],vs=>vs=[]
 |x :: xs,vs=>∃ cs rest,vs=cs++rest∧k.K w ok x cs∧All k w ok xs rest
section
variable {α β:Type} {k:Kd α} {w w':World} {ok ok':Nat→Prop} {x:α} {xs ys:List α} {vs us cs:List Value}
theorem All.len:∀ {xs:List α} {vs:List Value},All k w ok xs vs→vs.length=xs.length*k.size
 |[],vs,h=>by rw[show vs=[] from h];simp
 |x :: xs,vs,⟨cs,rest,e,h1,h2⟩=>by
  rw[e,List.length_append,k.len h1,All.len h2,List.length_cons,Nat.add_mul,Nat.one_mul,Nat.add_comm]
theorem All.one:∀ {xs:List α} {vs:List Value},All k w ok xs vs→∀ u∈vs,u.oneCell'=true
 |[],vs,h,u,hu=>by rw[show vs=[] from h] at hu;cases hu
 |x :: xs,vs,⟨cs,rest,e,h1,h2⟩,u,hu=>by
  rw[e] at hu
  rcases List.mem_append.1 hu with h|h
  ·exact k.one h1 u h
  ·exact All.one h2 u h
theorem All.stay (s:Stays w w' ok ok'):∀ {xs:List α} {vs:List Value},All k w ok xs vs→All k w' ok' xs vs
 |[],vs,h=>h
 |x :: xs,vs,⟨cs,rest,e,h1,h2⟩=>⟨cs,rest,e,k.stay s h1,All.stay s h2⟩
theorem All.append:∀ {xs:List α} {vs:List Value},All k w ok xs vs→All k w ok ys us→All k w ok (xs++ys) (vs++us)
 |[],vs,h,h2=>by rw[show vs=[] from h];exact h2
 |x :: xs,vs,⟨cs,rest,e,h1,h2⟩,h3=>⟨cs,rest++us,by rw[e,List.append_assoc],h1,All.append h2 h3⟩
theorem All.single (h:k.K w ok x cs):All k w ok [x] cs:=⟨cs,[],by simp,h,rfl⟩
theorem All.snoc (h:All k w ok xs vs) (h1:k.K w ok x cs):All k w ok (xs++[x]) (vs++cs):=h.append (All.single h1)
theorem All.get:∀ {xs:List α} {vs:List Value} (h:All k w ok xs vs) (i:Nat) (hi:i < xs.length),∃ cs,k.K w ok xs[i] cs∧∀ j,j < k.size→vs[i*k.size+j]?=cs[j]?
 |[],vs,h,i,hi=>absurd hi (by simp)
 |x :: xs,vs,⟨cs,rest,e,h1,h2⟩,0,hi=>⟨cs,h1,λj hj=>by rw[e,Nat.zero_mul,Nat.zero_add,List.getElem?_append_left (by rw[k.len h1];exact hj)]⟩
 |x :: xs,vs,⟨cs,rest,e,h1,h2⟩,i+1,hi=>by
  obtain⟨cs',h3,h4⟩:=All.get h2 i (by simpa using hi)
  refine⟨cs',h3,λj hj=>?_⟩
  rw[e,Nat.add_mul,Nat.one_mul,List.getElem?_append_right (by rw[k.len h1];omega),k.len h1,show i*k.size+k.size+j-k.size=i*k.size+j from by omega,h4 j hj]
end
def int (k:IntKind):Kd Int where
 size:=1
 pos:=Nat.one_pos
 K:=λw ok x cs=>cs=[.int k x]∧(Lit.int k x).wf=true
 len:=λh=>by rw[h.1];rfl
 one:=λh u hu=>by rw[h.1] at hu;simp at hu;subst hu;rfl
 stay:=λ_ h=>h
def bool:Kd Bool where
 size:=1
 pos:=Nat.one_pos
 K:=λw ok x cs=>cs=[.bool x]
 len:=λh=>by rw[h];rfl
 one:=λh u hu=>by rw[h] at hu;simp at hu;subst hu;rfl
 stay:=λ_ h=>h
def pair {α β:Type} (a:Kd α) (b:Kd β):Kd (α × β) where
 size:=a.size+b.size
 pos:=Nat.add_pos_left a.pos _
 K:=λw ok x cs=>∃ c1 c2,cs=c1++c2∧a.K w ok x.1 c1∧b.K w ok x.2 c2
 len:=λ⟨c1,c2,e,h1,h2⟩=>by rw[e,List.length_append,a.len h1,b.len h2]
 one:=λ⟨c1,c2,e,h1,h2⟩ u hu=>by
  rw[e] at hu
  rcases List.mem_append.1 hu with h|h
  ·exact a.one h1 u h
  ·exact b.one h2 u h
 stay:=λs ⟨c1,c2,e,h1,h2⟩=>⟨c1,c2,e,a.stay s h1,b.stay s h2⟩
def iso {α β:Type} (a:Kd β) (f:α→β):Kd α where
 size:=a.size
 pos:=a.pos
 K:=λw ok x cs=>a.K w ok (f x) cs
 len:=λh=>a.len h
 one:=λh=>a.one h
 stay:=λs h=>a.stay s h
def SK {α:Type} (k:Kd α) (w:World) (ok:Nat→Prop) (xs:List α) (v:Value):Prop :=
 ∃ A c vs,v=.slice A xs.length c∧xs.length≤c∧c≤maxLen∧RowIn w ok A vs∧k.All w ok xs vs
def slice {α:Type} (k:Kd α):Kd (List α) where
 size:=1
 pos:=Nat.one_pos
 K:=λw ok xs cs=>∃ v,cs=[v]∧SK k w ok xs v
 len:=λ⟨v,e,_⟩=>by rw[e];rfl
 one:=λ⟨v,e,A,c,vs,h,_⟩ u hu=>by rw[e] at hu;simp at hu;subst hu;rw[h];rfl
 stay:=λs ⟨v,e,A,c,vs,h1,h2,h3,h4,h5⟩=>⟨v,e,A,c,vs,h1,h2,h3,h4.stay s,h5.stay s⟩
section
variable {α:Type} {k:Kd α} {w w':World} {ok ok':Nat→Prop} {x:α} {xs:List α} {v:Value} {cs:List Value}
theorem SK.stay (h:SK k w ok xs v) (s:Stays w w' ok ok'):SK k w' ok' xs v:=by
 obtain⟨A,c,vs,h1,h2,h3,h4,h5⟩:=h
 exact⟨A,c,vs,h1,h2,h3,h4.stay s,h5.stay s⟩
theorem SK.nil (c:Nat) (hc:c≤maxLen) (A:Option Addr):SK k w ok ([]:List α) (.slice A 0 c):=⟨A,c,[],rfl,Nat.zero_le _,hc,RowIn.nil _ _ _,rfl⟩
theorem SK.at_ (h:SK k w ok xs v) (i:Nat) (hi:i < xs.length):∃ b off c cs,v=.slice (some ⟨b,off,none⟩) xs.length c∧xs.length≤c∧ok b∧b < w.heap.size∧k.K w ok xs[i] cs ∧
  ∀ j,j < k.size→w.cell? ⟨b,off+i*k.size+j,none⟩=cs[j]?:=by
 obtain⟨A,c,vs,rfl,h2,h3,h4,h5⟩:=h
 obtain⟨cs,hk,hc⟩:=h5.get i hi
 have hlen:=h5.len
 have hmul:i*k.size+k.size≤xs.length*k.size:=by
  have:(i+1)*k.size≤xs.length*k.size:=Nat.mul_le_mul_right _ hi
  rw[Nat.add_mul,Nat.one_mul] at this
  exact this
 have hp:=k.pos
 obtain⟨b,off,e,ho,hcell⟩:=h4 (i*k.size) (by omega)
 subst e
 refine⟨b,off,c,cs,rfl,h2,ho,World.block_lt_of_cell? w _ hcell,hk,λj hj=>?_⟩
 obtain⟨b',off',e',_,hc'⟩:=h4 (i*k.size+j) (by omega)
 simp only[Option.some.injEq,Addr.mk.injEq,and_true] at e'
 obtain⟨rfl,rfl⟩:=e'
 rw[Nat.add_assoc,hc',←hc j hj,List.getElem?_eq_getElem (by omega)]
theorem SK.own {base n:Nat} {e:TypeId} {vs:List Value} (h:w.ownsRow base e k.size v n vs) (ha:k.All w ok xs vs) (hb:∀ b,base≤b→ok b):SK k w ok xs v∧xs.length=n:=by
 have hl:=h.1
 rw[ha.len] at hl
 have hn:xs.length=n:=Nat.eq_of_mul_eq_mul_right k.pos hl
 refine⟨?_,hn⟩
 rcases h.2 with ⟨rfl,rfl⟩|⟨g,cap,cur,rfl,hg,hh,hnc,hcm,hsz,htk⟩
 ·obtain rfl:xs=[]:=List.eq_nil_of_length_eq_zero hn
  exact SK.nil 0 (Nat.zero_le _) none
 ·refine⟨_,cap,vs,by rw[hn],by omega,hcm,λj hj=>⟨g,0,rfl,hb g hg,?_⟩,ha⟩
  unfold World.cell?
  rw[hh,Nat.zero_add]
  have hj':j < n*k.size:=by rw[←h.1];exact hj
  have:cur.toList[j]?=vs[j]?:=by
   rw[←htk,List.getElem?_take,if_pos hj']
  simpa [List.getElem?_eq_getElem hj] using this
end
end Kd
theorem Stays.below {w w':World} {ok:Nat→Prop} (h:Below w.heap.size w w'):Stays w w' ok ok:=λb ho hb=>⟨ho,h.block b hb⟩
theorem Stays.weaken {w:World} {ok ok':Nat→Prop} (h:∀ b,ok b→ok' b):Stays w w ok ok':=λb ho _=>⟨h b ho,rfl⟩
theorem Stays.grown {w w':World} {row:Option Nat} {ok:Nat→Prop} (h:w.grownBy w' row) (hr:∀ b,ok b→some b≠row):Stays w w' ok ok:=λb ho hb=>⟨ho,h.block b hb (hr b ho)⟩
theorem Stays.drewN (w:World) (n:Nat) (ok:Nat→Prop):Stays w (w.drewN n) ok ok:=λb ho hb=>⟨ho,rfl⟩
structure Ins where
 kind:Int
 op:Int
 d:Int
 a:Int
 b:Int
 n:Int
 args:List Int
structure End where
 kind:Int
 a:Int
 to_:Int
 else_:Int
deriving DecidableEq
structure Block where
 ins:List Ins
 fin:End
structure Func where
 params:Int
 vregs:Int
 blocks:List Block
structure Code where
 params:Int
 regs:Int
 slots:Int
 blocks:List Block
structure PairV where
 v:Int
 l:Int
abbrev kI:Kd Int:=Kd.int .i64
abbrev kB:Kd Int:=Kd.int .u8
def kIns:Kd Ins:=Kd.iso (Kd.pair kB (Kd.pair kB (Kd.pair kI (Kd.pair kI (Kd.pair kI (Kd.pair kI (Kd.slice kI))))))) (λx=>(x.kind,x.op,x.d,x.a,x.b,x.n,x.args))
def kEnd:Kd End:=Kd.iso (Kd.pair kB (Kd.pair kI (Kd.pair kI kI))) (λx=>(x.kind,x.a,x.to_,x.else_))
def kBlock:Kd Block:=Kd.iso (Kd.pair (Kd.slice kIns) kEnd) (λx=>(x.ins,x.fin))
def kFunc:Kd Func:=Kd.iso (Kd.pair kI (Kd.pair kI (Kd.slice kBlock))) (λx=>(x.params,x.vregs,x.blocks))
def kPair:Kd PairV:=Kd.iso (Kd.pair kI kI) (λx=>(x.v,x.l))
structure Ins.Fits (i:Ins):Prop where
 kind:(Lit.int .u8 i.kind).wf=true
 op:(Lit.int .u8 i.op).wf=true
 d:(Lit.int .i64 i.d).wf=true
 a:(Lit.int .i64 i.a).wf=true
 b:(Lit.int .i64 i.b).wf=true
 n:(Lit.int .i64 i.n).wf=true
structure End.Fits (e:End):Prop where
 kind:(Lit.int .u8 e.kind).wf=true
 a:(Lit.int .i64 e.a).wf=true
 to_:(Lit.int .i64 e.to_).wf=true
 else_:(Lit.int .i64 e.else_).wf=true
section
variable {w:World} {ok:Nat→Prop} {cs:List Value}
theorem kIns_open {i:Ins} (h:kIns.K w ok i cs):i.Fits∧∃ v,cs=[.int .u8 i.kind,.int .u8 i.op,.int .i64 i.d,.int .i64 i.a,.int .i64 i.b,.int .i64 i.n,v]∧Kd.SK kI w ok i.args v:=by
 obtain⟨_,_,rfl,⟨rfl,h1⟩,_,_,rfl,⟨rfl,h2⟩,_,_,rfl,⟨rfl,h3⟩,_,_,rfl,⟨rfl,h4⟩,_,_,rfl,⟨rfl,h5⟩,_,_,rfl,⟨rfl,h6⟩,v,rfl,h7⟩:=h
 exact⟨⟨h1,h2,h3,h4,h5,h6⟩,v,rfl,h7⟩
theorem kIns_mk {i:Ins} (f:i.Fits) {v:Value} (h:Kd.SK kI w ok i.args v):kIns.K w ok i [.int .u8 i.kind,.int .u8 i.op,.int .i64 i.d,.int .i64 i.a,.int .i64 i.b,.int .i64 i.n,v] :=
 ⟨[_],_,rfl,⟨rfl,f.kind⟩,[_],_,rfl,⟨rfl,f.op⟩,[_],_,rfl,⟨rfl,f.d⟩,[_],_,rfl,⟨rfl,f.a⟩,[_],_,rfl,⟨rfl,f.b⟩,[_],_,rfl,⟨rfl,f.n⟩,v,rfl,h⟩
theorem kEnd_open {e:End} (h:kEnd.K w ok e cs):e.Fits∧cs=[.int .u8 e.kind,.int .i64 e.a,.int .i64 e.to_,.int .i64 e.else_]:=by
 obtain⟨_,_,rfl,⟨rfl,h1⟩,_,_,rfl,⟨rfl,h2⟩,_,_,rfl,⟨rfl,h3⟩,⟨rfl,h4⟩⟩:=h
 exact⟨⟨h1,h2,h3,h4⟩,rfl⟩
theorem kEnd_mk {e:End} (f:e.Fits):kEnd.K w ok e [.int .u8 e.kind,.int .i64 e.a,.int .i64 e.to_,.int .i64 e.else_] :=
 ⟨[_],_,rfl,⟨rfl,f.kind⟩,[_],_,rfl,⟨rfl,f.a⟩,[_],_,rfl,⟨rfl,f.to_⟩,⟨rfl,f.else_⟩⟩
theorem kBlock_open {b:Block} (h:kBlock.K w ok b cs):b.fin.Fits∧∃ v,cs=[v,.int .u8 b.fin.kind,.int .i64 b.fin.a,.int .i64 b.fin.to_,.int .i64 b.fin.else_]∧Kd.SK kIns w ok b.ins v:=by
 obtain⟨_,_,rfl,⟨v,rfl,h1⟩,h2⟩:=h
 obtain⟨f,rfl⟩:=kEnd_open h2
 exact⟨f,v,rfl,h1⟩
theorem kBlock_mk {b:Block} (f:b.fin.Fits) {v:Value} (h:Kd.SK kIns w ok b.ins v):kBlock.K w ok b [v,.int .u8 b.fin.kind,.int .i64 b.fin.a,.int .i64 b.fin.to_,.int .i64 b.fin.else_] :=
 ⟨[_],_,rfl,⟨v,rfl,h⟩,kEnd_mk f⟩
theorem kPair_open {p:PairV} (h:kPair.K w ok p cs):(Lit.int .i64 p.v).wf=true∧(Lit.int .i64 p.l).wf=true∧cs=[.int .i64 p.v,.int .i64 p.l]:=by
 obtain⟨_,_,rfl,⟨rfl,h1⟩,⟨rfl,h2⟩⟩:=h
 exact⟨h1,h2,rfl⟩
theorem kPair_mk {p:PairV} (h1:(Lit.int .i64 p.v).wf=true) (h2:(Lit.int .i64 p.l).wf=true):kPair.K w ok p [.int .i64 p.v,.int .i64 p.l]:=⟨[_],_,rfl,⟨rfl,h1⟩,⟨rfl,h2⟩⟩
end
theorem wf64 {n:Int}:(Lit.int .i64 n).wf=true↔-9223372036854775808≤n∧n≤9223372036854775807:=by
 simp[Lit.wf,IntKind.min,IntKind.max,IntKind.bits,IntKind.signed]
theorem wf8 {n:Int}:(Lit.int .u8 n).wf=true↔0≤n∧n≤255:=by
 simp[Lit.wf,IntKind.min,IntKind.max,IntKind.bits,IntKind.signed]
section
variable {P:Program} {w:World} {ops:Array Oper} {rest:List Oper} {o:Oper} {a:Act} {Q:Exit→Act→World→Prop}
theorem run_append_empty (t ty e:TypeId) (base:Nat) (i:TypeInfo) (z:Value) (bytes:Nat) (ht:P.underlying t=some (.slice e)) (hi:P.info? e=some i) (hz:i.zero=some z)
  (hsize:i.size=1) (hby:i.bytes=bytes) (hzs:z.cells.size=1) (B:Option Addr) (hown:w.ownsRow base e 1 (.slice B 0 0) 0 [])
  (A:Option Addr) (m c:Nat) (news:List Value) (hl:news.length=m) (hnews:Row w A news)
  (hbytes:m*bytes≤140737488355328) (h63:m≤maxLen) (hbase:base≤w.heap.size) :
  ∃ v' w',(Builtin.append_ #[t,t] ty #[.slice B 0 0,.slice A m c]).run P w=.ok v' w'∧Below w.heap.size w w'∧w'.ownsRow base e 1 v' m news∧(∀ b,B=some b→∃ g k,v'=.slice (some ⟨g,0,none⟩) m k):=by
 rcases Nat.eq_zero_or_pos m with rfl|hm
 ·obtain rfl:news=[]:=List.eq_nil_of_length_eq_zero hl
  refine⟨_,_,?_,Below.refl _ _,hown,λb hb=>by
   subst hb
   rcases hown.2 with ⟨hv,_⟩|⟨g,cap,cur,hv,_⟩
   ·simp at hv
   ·exact⟨g,cap,hv⟩⟩
  cases A<;>cases B<;>simp[Builtin.append_,run_underlying ht,sizeOf,typeInfo,hi,Builtin.lenOf,Builtin.firstCells,loadCells,loadCellsFrom,storeCells]
 ·obtain⟨b,off,rfl,_⟩:=hnews 0 (by omega)
  have hn':∀ j u,news[j]?=some u→w.cell? ((⟨b,off,none⟩:Addr).add j)=some u:=by
   intro j u hu
   obtain⟨hj,rfl⟩:=List.getElem?_eq_some_iff.1 hu
   obtain⟨b',off',e',hc⟩:=hnews j hj
   simp only[Option.some.injEq,Addr.mk.injEq,and_true] at e'
   obtain⟨rfl,rfl⟩:=e'
   rw[show (⟨b,off,none⟩:Addr).add j=⟨b,off+j,none⟩ from by unfold Addr.add;split<;>simp_all]
   exact hc
  have hge:=grownCap_ge w m 0 e
  have hcm:grownCap w m 0 e≤maxLen:=grownCap_le_maxLen w m 0 e h63
  have hfin:∀ cs:Array Value,cs=news.toArray++Builtin.zeroCells z.cells (grownCap w m 0 e-m) →
    (w.drew.alloc (.cells cs e)).ownsRow base e 1 (.slice (some ⟨w.heap.size,0,none⟩) m (grownCap w m 0 e)) m news:=by
   rintro cs rfl
   refine⟨by omega,.inr ⟨w.heap.size,_,_,rfl,hbase,heap_alloc_new w.drew _,hge,hcm,?_,?_⟩⟩
   ·simp only[Array.size_append,List.size_toArray,size_zeroCells,hzs,hl]
    omega
   ·simp only[Array.toList_append,Nat.mul_one,←hl]
    exact List.take_left
  have hbel:∀ ob,Below w.heap.size w (w.drew.alloc ob):=λob=>⟨rfl,rfl,rfl,by simp,λk hk=>heap_old w.drew ob k hk⟩
  have hmb:(m:Int)≤9223372036854775807:=by simp only[maxLen] at h63;omega
  cases B with
  |none =>
   have hr:=run_append_nil (P:=P) w t ty e i z ht hi hz ⟨b,off,none⟩ m c news (by rw[hsize];omega) hn' hm hmb (by rw[hby];omega)
   exact⟨_,_,hr,hbel _,hfin _ rfl,λb hb=>by cases hb⟩
  |some b0 =>
   have hr:=run_append_grow (P:=P) w t ty e i z ht hi hz b0 0 0 [] (by simp) (by simp) ⟨b,off,none⟩ m c news (by rw[hsize];omega) hn' (by omega) (by simpa using hmb) (by
    rw[Nat.zero_add,nextslicecap_zero hm,hby]
    omega)
   simp only[Nat.zero_add] at hr
   exact⟨_,_,hr,hbel _,hfin _ (by simp),λb hb=>⟨_,_,rfl⟩⟩
theorem wpList_append_empty (hgd:o.guard=none) (s x:Operand) (t:TypeId) (ho:o.op=.call { callee:=.builtin .append,args:=#[s,x],argTypes:=#[t,t] })
  (base:Nat) (e:TypeId) (i:TypeInfo) (z:Value) (bytes:Nat) (ht:P.underlying t=some (.slice e)) (hi:P.info? e=some i) (hz:i.zero=some z)
  (hsize:i.size=1) (hby:i.bytes=bytes) (hzs:z.cells.size=1)
  (B:Option Addr) (hs:a.eval s=.slice B 0 0) (hown:w.ownsRow base e 1 (.slice B 0 0) 0 [])
  (A:Option Addr) (m c:Nat) (news:List Value) (hx:a.eval x=.slice A m c) (hl:news.length=m) (hnews:Row w A news)
  (hbytes:m*bytes≤140737488355328) (h63:m≤maxLen) (hbase:base≤w.heap.size)
  (h:∀ v' w',Below w.heap.size w w'→w'.ownsRow base e 1 v' m news→(∀ b,B=some b→∃ g k,v'=.slice (some ⟨g,0,none⟩) m k)→wpList P ops Q rest (a.put o.dst v') w'):wpList P ops Q (o :: rest) a w:=by
 refine wpList_plain hgd λK hK=>?_
 obtain⟨v',w',hrun,h1,h2,h3⟩:=run_append_empty (P:=P) (w:=w) t o.type e base i z bytes ht hi hz hsize hby hzs B hown A m c news hl hnews hbytes h63 hbase
 unfold Oper.wp
 simp[execOp,ho,resolve,invoke,builtin,hs,hx,hrun,Result.andThen]
 exact hK _ _ (h _ _ h1 h2 h3)
end
def leb (n:Nat):List UInt8:=if h:n < 128 then [UInt8.ofNat n] else UInt8.ofNat (n % 128+128) :: leb (n / 128)
termination_by n
decreasing_by omega
theorem leb_small {n:Nat} (h:n < 128):leb n=[UInt8.ofNat n]:=by rw[leb,dif_pos h]
theorem leb_great {n:Nat} (h:¬n < 128):leb n=UInt8.ofNat (n % 128+128) :: leb (n / 128):=by rw[leb,dif_neg h]
theorem leb_length (k:Nat):∀ n,n < 128 ^ k→0 < k→(leb n).length≤k:=by
 induction k with
 |zero=>intro n _ h;omega
 |succ k ih =>
  intro n hn _
  by_cases h:n < 128
  ·rw[leb_small h];simp
  ·rw[leb_great h]
   have hk:0 < k:=by
    rcases Nat.eq_zero_or_pos k with rfl|h1
    ·simp at hn;omega
    ·exact h1
   have:=ih (n / 128) (by rw[Nat.pow_succ] at hn;omega) hk
   simp;omega
theorem leb_len10 {n:Nat} (h:n < 18446744073709551616):(leb n).length≤10:=leb_length 10 n (by omega) (by omega)
theorem infoByte:(Tryz.prog.info? 5).map (λi=>(i.zero,i.size,i.bytes))=some (some (.int .u8 0),1,1):=by kernel_rfl
theorem or_top:∀ x:Fin 256,Go.bits .or .u8 (x.val:Int) 128=((x.val % 128+128:Nat):Int):=by decide +kernel
theorem byteV_of (n:Nat) (h:n < 256):byteV (UInt8.ofNat n)=.int .u8 n:=by
 simp only[byteV]
 congr 1
 simp
 omega
def OwnB (w:World) (base:Nat) (v:Value) (l:List UInt8):Prop:=w.ownsRow base 5 1 v l.length (l.map byteV)
structure LebR (w:World) (b:List UInt8) (n q:Nat) (l:List UInt8) (v:Value) (wz:World):Prop where
 lt:q < 18446744073709551616
 all:l++leb q=b++leb n
 le:q≤n
 own:OwnB wz w.heap.size v l
 below:Below w.heap.size w wz
theorem put_any (A:Option Addr) (ca:Nat) (b:List UInt8) (n:Nat) (w:World) (hA:Bytes w A b) (hb:b.length≤10000000) (hn:n < 18446744073709551616) :
  Calls Tryz.prog 83 #[.slice A b.length ca,.int .u64 n] w λe w'=>Below w.heap.size w w'∧∃ v,e=.returned v∧OwnB w' w.heap.size v (b++leb n):=by
 have HA:=Hm hA
 have HN:=Hm hn
 obtain⟨i0,hi,hz0,hz1,hz2⟩:=info_parts infoByte
 have HI:=Hm (And.intro hi (And.intro hz0 (And.intro hz1 hz2)))
 clear hA hn hi hz0 hz1 hz2
 have hown0:(w.alloc (.cells #[] 5)).ownsRow w.heap.size 5 1 (.slice (some ⟨w.heap.size,0,none⟩) 0 0) 0 [] :=
  ⟨rfl,.inr ⟨w.heap.size,0,#[],rfl,Nat.le_refl _,heap_new _ _,Nat.le_refl _,Nat.zero_le _,rfl,rfl⟩⟩
 have HO0:=Hm hown0
 clear hown0
 go_enter Tryz.func83,Tryz.ntmps83
 go_wp2_with (first
  |(at_builtin;refine wpList_append_empty rfl (.tmp 6) (.tmp 7) 38 rfl w.heap.size 5 i0 (.int .u8 0) 1 Tryz.underlying38 HI.o.1 HI.o.2.1 HI.o.2.2.1 HI.o.2.2.2 rfl (some ⟨w.heap.size,0,none⟩) rfl HO0.o A b.length ca (b.map byteV) rfl (by simp) (HA.o.below ((Below.refl _ _).alloc (Nat.le_refl _) _)) ?x1 ?x2 ?x3 ?x4))
 case x1=>omega
 case x2=>unfold maxLen;omega
 case x3=>simp
 case x4 =>
  intro v1 w1 hb1 ho1 g k he
  clear he g k
  have HB1:Hd (Below w.heap.size w w1):=⟨((Below.refl w.heap.size w).alloc (Nat.le_refl _) (.cells #[] 5)).trans (hb1.mono (by simp))⟩
  have HO1:=Hm ho1
  clear hb1 ho1
  go_wp2_with fail
  go_loopw [1,5] (λm v wz=>∃ q:Nat,∃ l:List UInt8,m=.int .u64 q∧LebR w b n q l v wz) (λm _ _=>(intOf m).toNat)
  case atStart=>exact⟨n,b,rfl,HN.o,rfl,Nat.le_refl _,HO1.o,HB1.o⟩
  case round =>
   obtain⟨q,l,rfl,hR⟩:=hrel
   have HR:=Hm hR
   have hll:l.length≤10000010:=by
    have:=congrArg List.length hR.all
    have h1:=leb_len10 HN.o
    simp at this
    omega
   clear hR
   by_cases hs:q < 128
   ·have hs':¬(128:Int)≤(q:Int):=by omega
    have HS:=Hm hs
    clear hs
    go_wp2_with (first
     |(at_builtin;refine wpList_append_row rfl (.tmp 19) (.tmp 22) 38 rfl w.heap.size 5 i0 (.int .u8 0) 1 Tryz.underlying38 HI.o.1 HI.o.2.1 HI.o.2.2.1 HI.o.2.2.2 rfl _ l.length (l.map byteV) rfl (HR.o.own.alloc _) (some ⟨wr.heap.size,0,none⟩) 1 1 [.int .u8 (q:Int)] rfl rfl (row_new _ _ _ _) ?y0 ?y1 ?y2 ?y3 ?y4))
    case y0=>first|rfl|(intro u hu;simp at hu;subst hu;rfl)
    case y1=>omega
    case y2=>unfold maxLen;omega
    case y3=>have:=HR.o.below.size;simp;omega
    case y4 =>
     intro v3 w3 ho3 hg3
     have hfin:Below w.heap.size w w3∧OwnB w3 w.heap.size v3 (b++leb n):=by
      refine⟨(HR.o.below.alloc HR.o.below.size _).grown hg3 (by have:=HR.o.below.size;simp;omega) (λk hk=>(HR.o.own.lt k hk).1),?_⟩
      rw[←HR.o.all,leb_small HS.o]
      unfold OwnB
      simpa [byteV_of q (by have:=HS.o;omega)] using ho3
     have HF:=Hm hfin
     clear hfin ho3 hg3
     go_wp2
     go_ret
     exact⟨HF.o.1,_,rfl,HF.o.2⟩
   ·have hs':(128:Int)≤(q:Int):=by omega
    have hor:Go.bits .or .u8 ((q:Int) % 256) 128=((q % 128+128:Nat):Int):=by
     have:=or_top ⟨q % 256,Nat.mod_lt _ (by omega)⟩
     simp only at this
     rw[show ((q:Int) % 256)=((q % 256:Nat):Int) from by omega,this]
     omega
    have HS:=Hm hs
    have HOR:=Hm hor
    clear hs hor
    go_wp2_with (first
     |(at_builtin;refine wpList_append_row rfl (.tmp 11) (.tmp 15) 38 rfl w.heap.size 5 i0 (.int .u8 0) 1 Tryz.underlying38 HI.o.1 HI.o.2.1 HI.o.2.2.1 HI.o.2.2.2 rfl _ l.length (l.map byteV) rfl (HR.o.own.alloc _) (some ⟨wr.heap.size,0,none⟩) 1 1 [.int .u8 (Go.bits .or .u8 ((q:Int) % 256) 128)] rfl rfl (row_new _ _ _ _) ?z0 ?z1 ?z2 ?z3 ?z4))
    case z0=>first|rfl|(intro u hu;simp at hu;subst hu;rfl)
    case z1=>omega
    case z2=>unfold maxLen;omega
    case z3=>have:=HR.o.below.size;simp;omega
    case z4 =>
     intro v3 w3 ho3 hg3
     have hfin:LebR w b n (q / 128) (l++[UInt8.ofNat (q % 128+128)]) v3 w3:=by
      refine⟨by have:=HR.o.lt;omega,?_,by have:=HR.o.le;omega,?_,(HR.o.below.alloc HR.o.below.size _).grown hg3 (by have:=HR.o.below.size;simp;omega) (λk hk=>(HR.o.own.lt k hk).1)⟩
      ·rw[←HR.o.all,leb_great HS.o];simp
      ·unfold OwnB
       rw[HOR.o] at ho3
       have e:=byteV_of (q % 128+128) (by omega)
       rw[List.map_append,List.map_cons,List.map_nil,e,List.length_append]
       simpa using ho3
     have HF:=Hm hfin
     clear hfin ho3 hg3
     go_wp2
     go_roundw
     case rel=>exact⟨q / 128,_,by simp,HF.o⟩
     case measure=>simp[intOf];omega
theorem grownBy_refl (w:World) (row:Option Nat):w.grownBy w row:=⟨rfl,rfl,rfl,Nat.le_refl _,λ_ _ _=>rfl⟩
theorem grownBy_trans {w w1 w2:World} {row:Option Nat} (h:w.grownBy w1 row) (k:w1.grownBy w2 row):w.grownBy w2 row :=
 ⟨k.os.trans h.os,k.tape.trans h.tape,k.output.trans h.output,Nat.le_trans h.size k.size,λb hb h1=>(k.block b (Nat.lt_of_lt_of_le hb h.size) h1).trans (h.block b hb h1)⟩
theorem grownBy_below {w w':World} {row:Option Nat} (hb:Below w.heap.size w w'):w.grownBy w' row:=⟨hb.os,hb.tape,hb.output,hb.size,λk hk _=>hb.block k hk⟩
theorem grownBy_cell (w:World) (p k:Nat) (v:Value):w.grownBy (w.setCell ⟨p,k,none⟩ v) (some p):=⟨rfl,rfl,rfl,by simp,λb _ h1=>heap_setCell_other w _ b v (λe=>h1 (by rw[e]))⟩
structure RdIn (w:World) (p:Nat) (l:List UInt8) (c bl off ca:Nat):Prop where
 head:w.heap[p]?=some (.cells #[.slice (some ⟨bl,off,none⟩) l.length ca,.int .i64 c] 204 (0,0))
 bytes:Bytes w (some ⟨bl,off,none⟩) l
 ne:bl < p
 blt:bl < w.heap.size
 cap:l.length≤ca
 caps:ca≤9223372036854775807
def RdAt (w:World) (p:Nat) (l:List UInt8) (c:Nat):Prop:=∃ bl off ca,RdIn w p l c bl off ca
section
variable {w w':World} {p:Nat} {l:List UInt8} {c bl off ca:Nat}
theorem RdIn.lt (h:RdIn w p l c bl off ca):p < w.heap.size:=(Array.getElem?_eq_some_iff.1 h.head).1
theorem RdAt.lt (h:RdAt w p l c):p < w.heap.size:=by obtain⟨_,_,_,h⟩:=h;exact h.lt
theorem RdIn.c0 (h:RdIn w p l c bl off ca):w.cell? ⟨p,0,none⟩=some (.slice (some ⟨bl,off,none⟩) l.length ca):=by unfold World.cell?;rw[h.head];rfl
theorem RdIn.c1 (h:RdIn w p l c bl off ca):w.cell? ⟨p,1,none⟩=some (.int .i64 c):=by unfold World.cell?;rw[h.head];rfl
theorem RdIn.free (h:RdIn w p l c bl off ca) (k:Nat):w.frozen? ⟨p,k,none⟩=false:=by unfold World.frozen?;rw[h.head];simp
theorem RdIn.cell (h:RdIn w p l c bl off ca) (i:Nat) (hi:i < l.length):w.cell? ⟨bl,off+i,none⟩=some (.int .u8 (l[i].toNat:Int)):=by
 obtain⟨b',o',e,hc⟩:=h.bytes.at_ i hi
 simp only[Option.some.injEq,Addr.mk.injEq,and_true] at e
 obtain⟨rfl,rfl⟩:=e
 exact hc
theorem RdIn.fail (h:RdIn w p l c bl off ca) (c':Nat):RdIn (w.setCell ⟨p,1,none⟩ (.int .i64 c')) p l c' bl off ca :=
 { h with
  head:=by rw[Go.Joins.block_setCell h.head _];rfl
  bytes:=by
   intro j hj
   obtain⟨b,o,e,hc⟩:=h.bytes j hj
   simp only[Option.some.injEq,Addr.mk.injEq,and_true] at e
   obtain⟨rfl,rfl⟩:=e
   refine⟨bl,off,rfl,?_⟩
   rw[←hc]
   exact cell_of_heap (heap_setCell_other w ⟨p,1,none⟩ bl _ (Nat.ne_of_lt h.ne))
  blt:=by simpa using h.blt }
theorem RdIn.store (h:RdIn w p l c bl off ca) (l':List UInt8) (off' ca':Nat) (hb:Bytes w (some ⟨bl,off',none⟩) l') (h1:l'.length≤ca') (h2:ca'≤9223372036854775807) :
  RdIn (w.setCell ⟨p,0,none⟩ (.slice (some ⟨bl,off',none⟩) l'.length ca')) p l' c bl off' ca' :=
 {head:=by rw[Go.Joins.block_setCell h.head _];rfl
  bytes:=by
   intro j hj
   obtain⟨b,o,e,hc⟩:=hb j hj
   simp only[Option.some.injEq,Addr.mk.injEq,and_true] at e
   obtain⟨rfl,rfl⟩:=e
   refine⟨bl,off',rfl,?_⟩
   rw[←hc]
   exact cell_of_heap (heap_setCell_other w ⟨p,0,none⟩ bl _ (Nat.ne_of_lt h.ne))
  ne:=h.ne
  blt:=by simpa using h.blt
  cap:=h1
  caps:=h2 }
theorem RdIn.step (h:RdIn w p l c bl off ca) (h1:w'.heap[p]?=w.heap[p]?) (h2:w'.heap[bl]?=w.heap[bl]?):RdIn w' p l c bl off ca :=
 { h with
  head:=by rw[h1];exact h.head
  bytes:=by
   intro j hj
   obtain⟨b,o,e,hc⟩:=h.bytes j hj
   simp only[Option.some.injEq,Addr.mk.injEq,and_true] at e
   obtain⟨rfl,rfl⟩:=e
   exact⟨bl,off,rfl,by rw[←hc];exact cell_of_heap h2⟩
  blt:=by
   rcases Nat.lt_or_ge bl w'.heap.size with h3|h3
   ·exact h3
   ·rw[Array.getElem?_eq_none h3] at h2
    have:=h.blt
    rw[Array.getElem?_eq_getElem this] at h2
    cases h2 }
theorem RdIn.below (h:RdIn w p l c bl off ca) (hb:Below w.heap.size w w'):RdIn w' p l c bl off ca:=h.step (hb.block p h.lt) (hb.block bl h.blt)
theorem RdAt.below (h:RdAt w p l c) (hb:Below w.heap.size w w'):RdAt w' p l c:=by
 obtain⟨a,b,d,h⟩:=h
 exact⟨a,b,d,h.below hb⟩
end
theorem new_rd (A:Option Addr) (ca:Nat) (b:List UInt8) (w:World) (hA:Bytes w A b) (hb:b.length≤10000000) :
  Calls Tryz.prog 86 #[.slice A b.length ca] w λe w'=>Below w.heap.size w w'∧∃ p,e=.returned (.pointer (some ⟨p,0,none⟩))∧w.heap.size≤p∧RdAt w' p b 0:=by
 have HA:=Hm hA
 obtain⟨i0,hi,hz0,hz1,hz2⟩:=info_parts infoByte
 have HI:=Hm (And.intro hi (And.intro hz0 (And.intro hz1 hz2)))
 clear hA hi hz0 hz1 hz2
 have hown0:(w.alloc (.cells #[] 5)).ownsRow w.heap.size 5 1 (.slice (some ⟨w.heap.size,0,none⟩) 0 0) 0 [] :=
  ⟨rfl,.inr ⟨w.heap.size,0,#[],rfl,Nat.le_refl _,heap_new _ _,Nat.le_refl _,Nat.zero_le _,rfl,rfl⟩⟩
 have HO0:=Hm hown0
 clear hown0
 go_enter Tryz.func86,Tryz.ntmps86
 go_wp2_with (first
  |(at_builtin;refine wpList_append_empty rfl (.tmp 3) (.tmp 4) 38 rfl w.heap.size 5 i0 (.int .u8 0) 1 Tryz.underlying38 HI.o.1 HI.o.2.1 HI.o.2.2.1 HI.o.2.2.2 rfl (some ⟨w.heap.size,0,none⟩) rfl HO0.o A b.length ca (b.map byteV) rfl (by simp) (HA.o.below ((Below.refl _ _).alloc (Nat.le_refl _) _)) ?x1 ?x2 ?x3 ?x4))
 case x1=>omega
 case x2=>unfold maxLen;omega
 case x3=>simp
 case x4 =>
  intro v1 w1 hb1 ho1 g k he
  have HB1:Hd (Below w.heap.size w w1):=⟨((Below.refl w.heap.size w).alloc (Nat.le_refl _) (.cells #[] 5)).trans (hb1.mono (by simp))⟩
  have HO1:=Hm ho1
  subst he
  clear hb1 ho1
  go_wp2_with fail
  go_ret
  obtain⟨A',c',hv,hrow,_,hbase,hcap,hmax⟩:=own_row HO1.o
  simp only[Value.slice.injEq] at hv
  obtain⟨rfl,_,rfl⟩:=hv
  have hlt:=(HO1.o.lt g rfl).2
  refine⟨HB1.o.alloc HB1.o.size _,w1.heap.size,rfl,HB1.o.size,g,0,k,heap_new _ _,Row.below hrow ((Below.refl _ _).alloc (Nat.le_refl _) _),by omega,by simp;omega,by simpa using hcap,?_⟩
  rcases HO1.o.2 with ⟨h,_⟩|⟨g',cap',_,h,_,_,_,h',_⟩
  ·cases h
  ·cases h
   simpa [maxLen] using h'
def failed (c d:Nat):Nat:=if c=0 then d else c
structure RdStep (w w':World) (p:Nat) (l:List UInt8) (c:Nat):Prop where
 grown:w.grownBy w' (some p)
 rd:RdAt w' p l c
theorem fail_rd (p:Nat) (l:List UInt8) (c d:Nat) (w:World) (h:RdAt w p l c) :
  Calls Tryz.prog 94 #[.pointer (some ⟨p,0,none⟩),.int .i64 d] w λe w'=>e=.returned (.tuple #[])∧RdStep w w' p l (failed c d):=by
 obtain⟨bl,off,ca,hr⟩:=h
 have H:=Hm hr
 clear hr
 have c1:=H.o.c1
 have f1:=H.o.free 1
 go_enter Tryz.func94,Tryz.ntmps94
 by_cases hc:c=0
 ·subst hc
  go_wp2
  go_end0
  exact⟨rfl,grownBy_cell _ _ _ _,bl,off,ca,by simpa [failed] using H.o.fail d⟩
 ·have hc':¬(c:Int)=0:=by omega
  go_wp2
  go_end0
  exact⟨rfl,grownBy_refl _ _,bl,off,ca,by simpa [failed,hc] using H.o⟩
theorem code_rd (p:Nat) (l:List UInt8) (c:Nat) (w:World) (h:RdAt w p l c):Calls Tryz.prog 95 #[.pointer (some ⟨p,0,none⟩)] w λe w'=>e=.returned (.int .i64 c)∧w'=w:=by
 obtain⟨bl,off,ca,hr⟩:=h
 have H:=Hm hr
 clear hr
 have c1:=H.o.c1
 go_enter Tryz.func95,Tryz.ntmps95
 go_wp2
 go_ret
 exact⟨rfl,rfl⟩
theorem left_rd (p:Nat) (l:List UInt8) (c:Nat) (w:World) (h:RdAt w p l c):Calls Tryz.prog 56 #[.pointer (some ⟨p,0,none⟩)] w λe w'=>e=.returned (.int .i64 l.length)∧w'=w:=by
 obtain⟨bl,off,ca,hr⟩:=h
 have H:=Hm hr
 clear hr
 have c0:=H.o.c0
 go_enter Tryz.func56,Tryz.ntmps56
 go_wp2
 go_ret
 exact⟨rfl,rfl⟩
def ended (l:List UInt8) (c:Nat):Nat:=if l=[] then c else failed c 5
theorem end_rd (p:Nat) (l:List UInt8) (c:Nat) (w:World) (h:RdAt w p l c) :
  Calls Tryz.prog 57 #[.pointer (some ⟨p,0,none⟩)] w λe w'=>e=.returned (.int .i64 (ended l c))∧RdStep w w' p l (ended l c):=by
 have H0:=Hm h
 obtain⟨bl,off,ca,hr⟩:=h
 have H:=Hm hr
 clear hr
 have c0:=H.o.c0
 have c1:=H.o.c1
 go_enter Tryz.func57,Tryz.ntmps57
 by_cases hl:l=[]
 ·have hl0:l.length=0:=by simp[hl]
  rw[hl0] at c0
  have HL:=Hm hl
  clear hl
  go_wp2
  go_ret
  refine⟨by simp[ended,HL.o],grownBy_refl _ _,?_⟩
  have:=H0.o
  simpa [ended,HL.o] using this
 ·have hl0:(0:Int) < (l.length:Int):=by
   have:=List.length_pos_iff.2 hl
   omega
  have HL:=Hm hl
  clear hl
  go_wp2_with fail
  refine(fail_rd p l c 5 w H0.o).mono ?_
  rintro e w' ⟨rfl,hs⟩
  obtain⟨hg,bl',off',ca',hr'⟩:=hs
  have HS:=Hm hr'
  have HG:=Hm hg
  clear hr' hg
  have d1:=HS.o.c1
  go_wp2
  go_ret
  exact⟨by simp[ended,HL.o],HG.o,bl',off',ca',by simpa [ended,HL.o] using HS.o⟩
def numGo (l:List UInt8):List UInt8→Nat→Nat→Nat × List UInt8 × Nat
 |[],_,_=>(0,l,3)
 |x :: xs,i,acc=>if (i=9∧1 < x.toNat)∨(0 < i∧x.toNat=0) then (0,l,8) else if x.toNat < 128 then (acc+x.toNat*128 ^ i,xs,0) else numGo l xs (i+1) (acc+(x.toNat % 128)*128 ^ i)
def num (l:List UInt8):Nat × List UInt8 × Nat:=numGo l l 0 0
def numC (l:List UInt8) (c:Nat):Nat × List UInt8 × Nat:=if c=0 then num l else (0,l,c)
theorem and_low:∀ x:Fin 256,Go.bits .and .u8 (x.val:Int) 127=((x.val % 128:Nat):Int):=by decide +kernel
theorem wrap_u64 (n:Nat) (h:n < 18446744073709551616):IntKind.u64.wrap (n:Int)=n:=by
 simp only[IntKind.wrap,IntKind.bits,IntKind.signed]
 simp
 omega
theorem or_step (acc x k:Nat) (ha:acc < 128 ^ k) (hx:x < 128) (hk:k < 9∨(k=9∧x≤1)):Go.bits .or .u64 (acc:Int) (IntKind.u64.wrap ((x:Int)*2 ^ (7*k)))=((acc+x*128 ^ k:Nat):Int):=by
 have e:128 ^ k=2 ^ (7*k):=by rw[show 128=2 ^ 7 from rfl,←Nat.pow_mul]
 have hb:x*2 ^ (7*k) < 18446744073709551616:=by
  rcases hk with h|⟨rfl,h⟩
  ·have h1:2 ^ (7*k)≤2 ^ 56:=Nat.pow_le_pow_right (by omega) (by omega)
   calc x*2 ^ (7*k)≤128*2 ^ 56:=Nat.mul_le_mul (by omega) h1
    _ < _:=by decide
  ·calc x*2 ^ (7*9)≤1*2 ^ (7*9):=Nat.mul_le_mul h (Nat.le_refl _)
    _ < _:=by decide
 have hac:acc < 18446744073709551616:=by
  have h1:128 ^ k≤128 ^ 9:=Nat.pow_le_pow_right (by omega) (by omega)
  exact Nat.lt_of_lt_of_le ha (Nat.le_trans h1 (by decide))
 have e2:((x:Int)*2 ^ (7*k))=((x*2 ^ (7*k):Nat):Int):=by simp
 rw[e2,wrap_u64 _ hb,u64_or_nat _ _ hac hb]
 congr 1
 rw[e] at ha⊢
 rw[Nat.or_comm,←Nat.shiftLeft_eq,←Nat.shiftLeft_add_eq_or_of_lt ha]
 omega
structure NumR (w wz:World) (p:Nat) (l:List UInt8) (c0 k acc c:Nat):Prop where
 grown:w.grownBy wz (some p)
 rd:RdAt wz p l c
 goes:c=0→k≤9∧acc < 128 ^ k∧numGo l (l.drop k) k acc=numC l c0
 stops:c≠0→numC l c0=(0,l,c)
 le:k≤10
theorem NumR.next {w wr:World} {p:Nat} {l:List UInt8} {c0 k acc x:Nat} (HR:NumR w wr p l c0 k acc 0) (HB:numGo l (l.drop (k+1)) (k+1) (acc+x % 128*128 ^ k)=numC l c0) (hk:k≠9) :
  NumR w wr p l c0 (k+1) (acc+x % 128*128 ^ k) 0:=by
 have h1:=HR.goes rfl
 refine⟨HR.grown,HR.rd,λ_=>⟨by omega,?_,HB⟩,λh=>absurd rfl h,by omega⟩
 have h2:x % 128*128 ^ k≤127*128 ^ k:=Nat.mul_le_mul (by omega) (Nat.le_refl _)
 rw[Nat.pow_succ]
 omega
theorem num_fin {w wr:World} {p:Nat} {l:List UInt8} {c0 k acc x bl off ca:Nat} (HR:NumR w wr p l c0 k acc 0) (H:RdIn wr p l 0 bl off ca) (HB:(acc+x*128 ^ k,l.drop (k+1),0)=numC l c0)
  (off' ca':Nat) (hk:k < l.length) (ho:(off'=off+(k+1)∧ca'=ca-(k+1))∨(ca=k+1∧ca'=0)) :
  RdStep w (wr.setCell ⟨p,0,none⟩ (.slice (some ⟨bl,off',none⟩) (l.length-(k+1)) ca')) p (numC l c0).2.1 (numC l c0).2.2:=by
 rw[←HB]
 have hl:(l.drop (k+1)).length=l.length-(k+1):=by simp
 have h1:=H.cap
 have h2:=H.caps
 refine⟨grownBy_trans HR.grown (grownBy_cell _ _ _ _),bl,off',ca',?_⟩
 rw[←hl]
 refine H.store (l.drop (k+1)) off' ca' ?_ (by rw[hl];rcases ho with ⟨_,rfl⟩|⟨h,rfl⟩<;>omega) (by rcases ho with ⟨_,rfl⟩|⟨h,rfl⟩<;>omega)
 rcases ho with ⟨rfl,_⟩|⟨h,_⟩
 ·have:=H.bytes.drop (k+1)
  simpa [Addr.add] using this
 ·have:l.drop (k+1)=[]:=List.drop_eq_nil_of_le (by omega)
  rw[this]
  exact Bytes.nil _ _
theorem num_rd (p:Nat) (l:List UInt8) (c0:Nat) (w:World) (h:RdAt w p l c0) (hl:l.length≤10000000) :
  Calls Tryz.prog 54 #[.pointer (some ⟨p,0,none⟩)] w λe w'=>e=.returned (.int .u64 (numC l c0).1)∧RdStep w w' p (numC l c0).2.1 (numC l c0).2.2:=by
 have H0:=Hm h
 have HL:=Hm hl
 clear h hl
 go_enter Tryz.func54,Tryz.ntmps54
 go_wp2_with fail
 go_loopw [3,4] (λn i wz=>∃ k acc c:Nat,n=.int .u64 acc∧i=.int .i64 k∧NumR w wz p l c0 k acc c) (λ_ i _=>20-(intOf i).toNat)
 case atStart =>
  exact⟨0,0,c0,rfl,rfl,grownBy_refl _ _,H0.o,λh=>⟨by omega,by simp,by simp[numC,h,num]⟩,λh=>by simp[numC,h],by omega⟩
 case round =>
  obtain⟨k,acc,c,rfl,rfl,hR⟩:=hrel
  have HR:=Hm hR
  clear hR
  obtain⟨bl,off,ca,hr⟩:=HR.o.rd
  have H:=Hm hr
  clear hr
  have d1:=H.o.c1
  have d0:=H.o.c0
  have f0:=H.o.free 0
  by_cases hc:c=0
  ·subst hc
   have hk9:=(HR.o.goes rfl).1
   by_cases hk:l.length≤k
   ·have hk':((l.length:Int)≤(k:Int)):=by omega
    go_wp2_with fail
    refine(fail_rd p l 0 3 _ HR.o.rd).mono ?_
    rintro e w' ⟨rfl,hs⟩
    have HS:=Hm hs
    clear hs
    have HK:=Hm hk
    clear hk hk' d0 d1
    go_wp2_with fail
    go_roundw
    case rel =>
     have hg:=(HR.o.goes rfl).2.2
     rw[List.drop_eq_nil_of_le HK.o] at hg
     exact⟨k+1,acc,3,rfl,by simp,grownBy_trans HR.o.grown HS.o.grown,HS.o.rd,λh=>absurd h (by omega),λ_=>by rw[←hg];rfl,by have:=(HR.o.goes rfl).1;omega⟩
    case measure =>
     have:=(HR.o.goes rfl).1
     simp[intOf]
     omega
   ·have hk':¬((l.length:Int)≤(k:Int)):=by omega
    obtain⟨y,hy,d2⟩:∃ y:UInt8,l.drop k=y :: l.drop (k+1)∧wr.cell? ⟨bl,off+k,none⟩=some (.int .u8 (y.toNat:Int)):=⟨_,List.drop_eq_getElem_cons (by omega),H.o.cell k (by omega)⟩
    have hx8:=UInt8.toNat_lt y
    obtain⟨x,hx⟩:∃ x:Nat,y.toNat=x:=⟨_,rfl⟩
    rw[hx] at d2 hx8
    have HX:=Hm hx
    have HY:=Hm hy
    have HG:Hd (numGo l (y :: l.drop (k+1)) k acc=numC l c0):=⟨by rw[←hy];exact(HR.o.goes rfl).2.2⟩
    have HK:=Hm hk
    clear hk hx hy
    by_cases hbad:(k=9∧1 < x)∨(0 < k∧x=0)
    ·have HB:Hd ((0,l,8)=numC l c0):=⟨by have h:=HG.o;rwa [numGo,HX.o,if_pos hbad] at h⟩
     by_cases h9:k=9∧1 < x
     ·clear hbad
      obtain⟨rfl,h92⟩:=h9
      have e92:(1:Int) < (x:Int):=by omega
      go_wp2_with fail
      refine(fail_rd p l 0 8 _ HR.o.rd).mono ?_
      rintro e w' ⟨rfl,hs⟩
      have HS:=Hm hs
      clear hs hk' d0 d1 d2
      go_wp2_with fail
      go_roundw
      case rel =>
       exact⟨10,acc,8,rfl,by simp,grownBy_trans HR.o.grown HS.o.grown,HS.o.rd,λh=>absurd h (by omega),λ_=>HB.o.symm,by omega⟩
      case measure =>
       simp[intOf]
     ·have hbad':0 < k∧x=0:=hbad.elim (λh=>absurd h h9) (λh=>h)
      obtain⟨hb1,rfl⟩:=hbad'
      clear hbad h9
      have e1:(0:Int) < (k:Int):=by omega
      by_cases e9:k=9
      ·subst e9
       go_wp2_with fail
       refine(fail_rd p l 0 8 _ HR.o.rd).mono ?_
       rintro e w' ⟨rfl,hs⟩
       have HS:=Hm hs
       clear hs hk' d0 d1 d2
       go_wp2_with fail
       go_roundw
       case rel=>exact⟨9+1,acc,8,rfl,by simp,grownBy_trans HR.o.grown HS.o.grown,HS.o.rd,λh=>absurd h (by omega),λ_=>HB.o.symm,by omega⟩
       case measure =>
        simp[intOf]
      ·have e9':¬(k:Int)=9:=by omega
       go_wp2_with fail
       refine(fail_rd p l 0 8 _ HR.o.rd).mono ?_
       rintro e w' ⟨rfl,hs⟩
       have HS:=Hm hs
       clear hs hk' d0 d1 d2
       go_wp2_with fail
       go_roundw
       case rel=>exact⟨k+1,acc,8,rfl,by simp,grownBy_trans HR.o.grown HS.o.grown,HS.o.rd,λh=>absurd h (by omega),λ_=>HB.o.symm,by omega⟩
       case measure =>
        simp[intOf]
        omega
    ·have hkx:k=0∨(0 < k∧k≠9∧x≠0)∨(k=9∧x=1):=by omega
     by_cases hlo:x < 128
     ·have HB:Hd ((acc+x*128 ^ k,l.drop (k+1),0)=numC l c0):=⟨by have h:=HG.o;rwa [numGo,HX.o,if_neg hbad,if_pos hlo] at h⟩
      clear hbad
      rcases hkx with rfl|⟨hk0,hk9',hx0⟩|⟨rfl,rfl⟩
      ·simp only[Nat.add_zero] at d2
       have hk1:¬l.length=0:=by have:=HK.o;omega
       have HO:Hd (Go.bits .or .u64 (acc:Int) (x:Int)=((acc+x*128 ^ 0:Nat):Int)):=⟨by
        have:=or_step acc x 0 (HR.o.goes rfl).2.1 hlo (.inl (by omega))
        rw[show (x:Int)*2 ^ (7*0)=(x:Int) from by simp,wrap_u64 x (by omega)] at this
        exact this⟩
       go_wp2_with fail
       ·go_ret
        exact⟨ret_int (a:=Go.bits .or .u64 (acc:Int) (x:Int)) (by rw[HO.o,←HB.o]),num_fin HR.o H.o HB.o _ _ (by have:=HK.o;omega) (.inr ⟨by omega,rfl⟩)⟩
       ·go_ret
        exact⟨ret_int (a:=Go.bits .or .u64 (acc:Int) (x:Int)) (by rw[HO.o,←HB.o]),num_fin HR.o H.o HB.o _ _ (by have:=HK.o;omega) (.inl ⟨rfl,rfl⟩)⟩
      ·have e1:(0:Int) < (k:Int):=by omega
       have e2:¬(x:Int)=0:=by omega
       have e3:¬(k:Int)=9:=by omega
       have HO:Hd (Go.bits .or .u64 (acc:Int) (IntKind.u64.wrap ((x:Int)*2 ^ (7*k)))=((acc+x*128 ^ k:Nat):Int)):=⟨or_step acc x k (HR.o.goes rfl).2.1 hlo (.inl (by omega))⟩
       go_wp2_with fail
       ·go_ret
        exact⟨ret_int (a:=Go.bits .or .u64 (acc:Int) (IntKind.u64.wrap ((x:Int)*2 ^ (7*k)))) (by rw[HO.o,←HB.o]),num_fin HR.o H.o HB.o _ _ (by have:=HK.o;omega) (.inr ⟨by omega,rfl⟩)⟩
       ·go_ret
        exact⟨ret_int (a:=Go.bits .or .u64 (acc:Int) (IntKind.u64.wrap ((x:Int)*2 ^ (7*k)))) (by rw[HO.o,←HB.o]),num_fin HR.o H.o HB.o _ _ (by have:=HK.o;omega) (.inl ⟨rfl,rfl⟩)⟩
      ·have HO:Hd (Go.bits .or .u64 (acc:Int) 9223372036854775808=((acc+1*128 ^ 9:Nat):Int)):=⟨or_step acc 1 9 (HR.o.goes rfl).2.1 (by omega) (.inr ⟨rfl,by omega⟩)⟩
       go_wp2_with fail
       ·go_ret
        exact⟨ret_int (a:=Go.bits .or .u64 (acc:Int) 9223372036854775808) (by rw[HO.o,←HB.o]),num_fin HR.o H.o HB.o _ _ (by have:=HK.o;omega) (.inr ⟨by omega,rfl⟩)⟩
       ·go_ret
        exact⟨ret_int (a:=Go.bits .or .u64 (acc:Int) 9223372036854775808) (by rw[HO.o,←HB.o]),num_fin HR.o H.o HB.o _ _ (by have:=HK.o;omega) (.inl ⟨rfl,rfl⟩)⟩
     ·have HB:Hd (numGo l (l.drop (k+1)) (k+1) (acc+x % 128*128 ^ k)=numC l c0):=⟨by have h:=HG.o;rwa [numGo,HX.o,if_neg hbad,if_neg hlo] at h⟩
      clear hbad
      have hkx':k≠9∧(k=0∨(0 < k∧x≠0)):=by omega
      obtain⟨hk9',hkx'⟩:=hkx'
      clear hkx
      have hand:Go.bits .and .u8 (x:Int) 127=((x % 128:Nat):Int):=and_low ⟨x,by omega⟩
      have HA:=Hm hand
      have HO:Hd (Go.bits .or .u64 (acc:Int) (IntKind.u64.wrap (((x % 128:Nat):Int)*2 ^ (7*k)))=((acc+x % 128*128 ^ k:Nat):Int)):=⟨or_step acc (x % 128) k (HR.o.goes rfl).2.1 (by omega) (.inl (by omega))⟩
      clear hand
      rcases hkx' with rfl|⟨hk0,hx0⟩
      ·simp only[Nat.add_zero] at d2
       have hk1:¬l.length=0:=by have:=HK.o;omega
       go_wp2_with fail
       refine⟨⟨1,_,0,?_,by simp,HR.o.next HB.o hk9'⟩,by simp[intOf]⟩
       rw[HA.o,wrap_u64 _ (by omega),←HO.o]
       simp
      ·have e1:(0:Int) < (k:Int):=by omega
       have e2:¬(x:Int)=0:=by omega
       have e3:¬(k:Int)=9:=by omega
       go_wp2_with fail
       refine⟨⟨k+1,_,0,?_,by simp,HR.o.next HB.o hk9'⟩,by simp[intOf];omega⟩
       rw[HA.o,wrap_u64 _ (by omega),←HO.o]
  ·have hc':¬(c:Int)=0:=by omega
   have HC:=Hm hc
   clear hc
   go_wp2
   go_ret
   have:=HR.o.stops HC.o
   rw[this]
   exact⟨rfl,HR.o.grown,HR.o.rd⟩
end Go.Proofs.YtjkgligohegaeaaGreatDoor
