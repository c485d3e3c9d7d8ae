/- Lemmas of the row. -/
import Derived.KernelRfl
import Derived.Orders
import Derived.Tactics
import Derived.Test.YtjkgligohegaeaaGreatDoorN01
set_option linter.all false
set_option maxRecDepth 20000
set_option maxHeartbeats 12800000
namespace Go.Proofs.YtjkgligohegaeaaGreatDoor
open Go.RowKit
theorem numGo_lt (l:List UInt8):∀ (xs:List UInt8) (i acc:Nat),i≤9→acc < 128 ^ i→(numGo l xs i acc).1 < 18446744073709551616
 |[],_,_,_,_=>by simp[numGo]
 |x :: xs,i,acc,hi,ha=>by
  have hpow:∀ j,j≤8→128 ^ j≤128 ^ 8:=λj hj=>Nat.pow_le_pow_right (by omega) hj
  rw[numGo]
  split
  ·simp
  ·rename_i hb
   split
   ·rename_i hx
    rcases Nat.lt_or_ge i 9 with h|h
    ·have h1:=hpow i (by omega)
     have h2:x.toNat*128 ^ i≤127*128 ^ 8:=Nat.mul_le_mul (by omega) h1
     simp only
     have h3:acc < 128 ^ 8:=Nat.lt_of_lt_of_le ha h1
     calc acc+x.toNat*128 ^ i < 128 ^ 8+127*128 ^ 8:=by omega
      _ < _:=by decide
    ·obtain rfl:i=9:=by omega
     have h2:x.toNat*128 ^ 9≤1*128 ^ 9:=Nat.mul_le_mul (by omega) (Nat.le_refl _)
     simp only
     calc acc+x.toNat*128 ^ 9 < 128 ^ 9+1*128 ^ 9:=by omega
      _=_:=by decide
   ·rename_i hx
    refine numGo_lt l xs (i+1) _ (by omega) ?_
    have h2:x.toNat % 128*128 ^ i≤127*128 ^ i:=Nat.mul_le_mul (by omega) (Nat.le_refl _)
    rw[Nat.pow_succ]
    omega
theorem numC_lt (l:List UInt8) (c:Nat):(numC l c).1 < 18446744073709551616:=by
 unfold numC num
 split
 ·exact numGo_lt l l 0 0 (by omega) (by simp)
 ·simp
theorem numGo_rest (l:List UInt8):∀ (xs:List UInt8) (i acc:Nat),xs.length≤l.length→(numGo l xs i acc).2.1.length≤l.length
 |[],_,_,_=>by simp[numGo]
 |x :: xs,i,acc,h=>by
  simp only[List.length_cons] at h
  rw[numGo]
  split
  ·simp
  ·split
   ·simp;omega
   ·exact numGo_rest l xs (i+1) _ (by omega)
theorem numC_rest (l:List UInt8) (c:Nat):(numC l c).2.1.length≤l.length:=by
 unfold numC num
 split
 ·exact numGo_rest l l 0 0 (Nat.le_refl _)
 ·simp
def belowC (l:List UInt8) (c:Nat) (limit:Int):Nat × List UInt8 × Nat :=
 if (numC l c).2.2=0 then if limit < 1∨limit≤((numC l c).1:Int) then (0,(numC l c).2.1,2) else (numC l c) else (0,(numC l c).2.1,(numC l c).2.2)
theorem below_rd (p:Nat) (l:List UInt8) (c0:Nat) (limit:Int) (w:World) (h:RdAt w p l c0) (hl:l.length≤10000000) (hlim:limit < 4294967296) :
  Calls Tryz.prog 53 #[.pointer (some ⟨p,0,none⟩),.int .i64 limit] w λe w'=>e=.returned (.int .i64 (belowC l c0 limit).1)∧RdStep w w' p (belowC l c0 limit).2.1 (belowC l c0 limit).2.2:=by
 have H0:=Hm h
 have HL:=Hm hl
 have HM:=Hm hlim
 clear h hl hlim
 have HN:=Hm (numC_lt l c0)
 obtain⟨⟨n,r,c⟩,hn⟩:∃ x,numC l c0=x:=⟨_,rfl⟩
 have HE:=Hm hn
 go_enter Tryz.func53,Tryz.ntmps53
 go_wp2_with fail
 refine(num_rd p l c0 w H0.o HL.o).mono ?_
 rw[hn] at HN⊢
 clear hn
 rintro e w1 ⟨rfl,hs⟩
 have HS:=Hm hs
 obtain⟨bl,off,ca,hr⟩:=hs.rd
 have H:=Hm hr
 clear hs hr
 have d1:=H.o.c1
 simp only at d1
 by_cases hc:c=0
 ·subst hc
  by_cases h1:limit < 1
  ·go_wp2_with fail
   refine(fail_rd p _ _ 2 w1 HS.o.rd).mono ?_
   rintro e w2 ⟨rfl,hs2⟩
   have HS2:=Hm hs2
   obtain⟨bl2,off2,ca2,hr2⟩:=hs2.rd
   have e1:=hr2.c1
   clear hs2 hr2
   simp only[failed,if_true] at e1
   go_wp2
   go_ret
   have e:belowC l c0 limit=(0,r,2):=by simp[belowC,HE.o,h1]
   rw[e]
   exact⟨rfl,grownBy_trans HS.o.grown HS2.o.grown,HS2.o.rd⟩
  ·by_cases h2:limit≤(n:Int)
   ·have e0:limit.toNat≤n:=by omega
    have el:limit=(limit.toNat:Int):=by omega
    have hm:=HM.o
    generalize limit.toNat=m at e0 el
    subst el
    go_wp2_with fail
    refine(fail_rd p _ _ 2 w1 HS.o.rd).mono ?_
    rintro e w2 ⟨rfl,hs2⟩
    have HS2:=Hm hs2
    obtain⟨bl2,off2,ca2,hr2⟩:=hs2.rd
    have e1:=hr2.c1
    clear hs2 hr2
    simp only[failed,if_true] at e1
    go_wp2
    go_ret
    have e:belowC l c0 m=(0,r,2):=by simp[belowC,HE.o,e0]
    rw[e]
    exact⟨rfl,grownBy_trans HS.o.grown HS2.o.grown,HS2.o.rd⟩
   ·have e0:n < limit.toNat:=by omega
    have el:limit=(limit.toNat:Int):=by omega
    have hm:=HM.o
    generalize limit.toNat=m at e0 el
    subst el
    have hn:n < 4294967296:=by omega
    have HN4:=Hm hn
    have hm0:¬m=0:=by omega
    have hm1:¬(m:Int)≤(n:Int):=by omega
    clear hm hn
    have HW:Hd (IntKind.u64.wrap (m:Int)=m):=⟨wrap_u64 m (by have:=HM.o;omega)⟩
    go_wp2_with fail
    ·have h:(m:Int) < 1∨IntKind.u64.wrap (m:Int)≤(n:Int):=by assumption
     rw[HW.o] at h
     exact absurd h (by omega)
    go_ret
    have e:belowC l c0 m=(n,r,0):=by
     have h3:¬m≤n:=by omega
     have h4:¬(m:Int) < 1:=by omega
     simp only[belowC,HE.o,if_true]
     rw[if_neg (by omega)]
    rw[e]
    exact⟨ret_int (a:=wrap64 n) (by have:=HN4.o;unfold wrap64;omega),HS.o.grown,HS.o.rd⟩
 ·have hc':¬(c:Int)=0:=by omega
  have HC:=Hm hc
  clear hc
  go_wp2
  go_ret
  have e:belowC l c0 limit=(0,r,c):=by simp[belowC,HE.o,HC.o]
  rw[e]
  exact⟨rfl,HS.o.grown,HS.o.rd⟩
theorem own_step {w w':World} {base:Nat} {e:TypeId} {size n:Nat} {v:Value} {xs:List Value} (h:w.ownsRow base e size v n xs) (hs:∀ g,base≤g→w'.heap[g]?=w.heap[g]?):w'.ownsRow base e size v n xs:=by
 obtain⟨h1,h2⟩:=h
 refine⟨h1,?_⟩
 rcases h2 with h2|⟨g,cap,cur,hv,hb,hh,h3⟩
 ·exact .inl h2
 ·exact .inr ⟨g,cap,cur,hv,hb,by rw[hs g hb];exact hh,h3⟩
theorem RdIn.cut {w:World} {p:Nat} {l:List UInt8} {c bl off ca:Nat} (H:RdIn w p l c bl off ca) (k off' ca':Nat) (hk:k≤l.length) (ho:(off'=off+k∧ca'=ca-k)∨(ca=k∧ca'=0)) :
  RdAt (w.setCell ⟨p,0,none⟩ (.slice (some ⟨bl,off',none⟩) (l.length-k) ca')) p (l.drop k) c:=by
 have hl:(l.drop k).length=l.length-k:=by simp
 have h1:=H.cap
 have h2:=H.caps
 refine⟨bl,off',ca',?_⟩
 rw[←hl]
 refine H.store (l.drop k) off' ca' ?_ (by rw[hl];rcases ho with ⟨_,rfl⟩|⟨h,rfl⟩<;>omega) (by rcases ho with ⟨_,rfl⟩|⟨h,rfl⟩<;>omega)
 rcases ho with ⟨rfl,_⟩|⟨h,_⟩
 ·have h3:=H.bytes.drop k
  have e:(⟨bl,off,none⟩:Addr).add k=⟨bl,off+k,none⟩:=by unfold Addr.add;split<;>simp_all
  rwa [e] at h3
 ·have:l.drop k=[]:=List.drop_eq_nil_of_le (by omega)
  rw[this]
  exact Bytes.nil _ _
def bytesC (l:List UInt8) (c:Nat) (n:Int):List UInt8 × List UInt8 × Nat :=
 if c=0 then if n < 0∨(l.length:Int) < n then ([],l,3) else (l.take n.toNat,l.drop n.toNat,0) else ([],l,c)
theorem bytes_rd (p:Nat) (l:List UInt8) (c:Nat) (n:Int) (w:World) (h:RdAt w p l c) (hl:l.length≤10000000) :
  Calls Tryz.prog 55 #[.pointer (some ⟨p,0,none⟩),.int .i64 n] w λe w'=>RdStep w w' p (bytesC l c n).2.1 (bytesC l c n).2.2∧∃ v,e=.returned v∧OwnB w' w.heap.size v (bytesC l c n).1:=by
 have H0:=Hm h
 obtain⟨bl,off,ca,hr⟩:=h
 have H:=Hm hr
 have HL:=Hm hl
 clear hr hl
 have c0:=H.o.c0
 have c1:=H.o.c1
 have f0:=H.o.free 0
 have hnil:∀ w':World,OwnB w' w.heap.size (.slice none 0 0) []:=λw'=>⟨rfl,.inl ⟨rfl,rfl⟩⟩
 have HNil:=Hm hnil
 clear hnil
 go_enter Tryz.func55,Tryz.ntmps55
 by_cases hc:c=0
 ·subst hc
  by_cases h1:n < 0
  ·go_wp2_with fail
   refine(fail_rd p _ _ 3 w H0.o).mono ?_
   rintro e w2 ⟨rfl,hs2⟩
   have HS2:=Hm hs2
   clear hs2
   go_wp2
   go_ret
   have e:bytesC l 0 n=([],l,3):=by simp[bytesC,h1]
   rw[e]
   exact⟨⟨HS2.o.grown,HS2.o.rd⟩,_,rfl,HNil.o _⟩
  ·by_cases h2:(l.length:Int) < n
   ·go_wp2_with fail
    refine(fail_rd p _ _ 3 w H0.o).mono ?_
    rintro e w2 ⟨rfl,hs2⟩
    have HS2:=Hm hs2
    clear hs2
    go_wp2
    go_ret
    have e:bytesC l 0 n=([],l,3):=by simp[bytesC,h2]
    rw[e]
    exact⟨⟨HS2.o.grown,HS2.o.rd⟩,_,rfl,HNil.o _⟩
   ·obtain⟨m,rfl⟩:∃ m:Nat,n=m:=⟨n.toNat,by omega⟩
    have hm:m≤l.length:=by omega
    have HM:=Hm hm
    obtain⟨i0,hi,hz0,hz1,hz2⟩:=info_parts infoByte
    have HI:=Hm (And.intro hi (And.intro hz0 (And.intro hz1 hz2)))
    clear hi hz0 hz1 hz2 h1
    have hcap:=H.o.cap
    have hca:m≤ca:=by omega
    have hown0:(w.alloc (.cells #[] 5)).ownsRow w.heap.size 5 1 (.slice (some ⟨w.heap.size,0,none⟩) 0 0) 0 [] :=
     ⟨rfl,.inr ⟨w.heap.size,0,#[],rfl,Nat.le_refl _,heap_new _ _,Nat.le_refl _,Nat.zero_le _,rfl,rfl⟩⟩
    have HO0:=Hm hown0
    have HT:=Hm (H.o.bytes.take m)
    clear hown0
    have c0':(w.alloc (.cells #[] 5)).cell? ⟨p,0,none⟩=some (.slice (some ⟨bl,off,none⟩) l.length ca):=(H.o.below ((Below.refl _ _).alloc (Nat.le_refl _) _)).c0
    go_wp2_with (first
     |(at_builtin;refine wpList_append_empty rfl (.tmp 26) (.tmp 32) 38 rfl w.heap.size 5 i0 (.int .u8 0) 1 Tryz.underlying38 HI.o.1 HI.o.2.1 HI.o.2.2.1 HI.o.2.2.2 rfl (some ⟨w.heap.size,0,none⟩) rfl HO0.o (some ⟨bl,off,none⟩) m ca ((l.take m).map byteV) rfl ?x0 (HT.o.below ((Below.refl _ _).alloc (Nat.le_refl _) _)) ?x1 ?x2 ?x3 ?x4))
    case x1=>have:=HL.o;omega
    case x2=>have:=HL.o;unfold maxLen;omega
    case x4 =>
     intro v1 w1 hb1 ho1 g k he
     have HB1:Hd (Below w.heap.size w w1):=⟨((Below.refl w.heap.size w).alloc (Nat.le_refl _) (.cells #[] 5)).trans (hb1.mono (by simp))⟩
     have HO1:=Hm ho1
     have H1:=Hm (H.o.below HB1.o)
     subst he
     clear hb1 ho1 c0 c0' c1 f0
     have d0:=H1.o.c0
     have g0:=H1.o.free 0
     have e:bytesC l 0 m=(l.take m,l.drop m,0):=by
      have h3:¬((m:Int) < 0∨(l.length:Int) < (m:Int)):=by omega
      simp only[bytesC,if_true]
      rw[if_neg h3]
      simp
     have HEE:=Hm e
     have HF:Hd (∀ x:Value,OwnB (w1.setCell ⟨p,0,none⟩ x) w.heap.size (.slice (some ⟨g,0,none⟩) m k) (l.take m)):=⟨λx=>by
      unfold OwnB
      have hlm:(l.take m).length=m:=by simp;omega
      rw[hlm,List.map_take]
      refine own_step HO1.o λb hb=>heap_setCell_other w1 _ b _ ?_
      have:=H.o.lt
      simp only
      omega⟩
     clear e
     go_wp2_with fail
     ·go_ret
      rw[HEE.o]
      exact⟨⟨grownBy_trans (grownBy_below HB1.o) (grownBy_cell _ _ _ _),H1.o.cut m _ _ hm (.inr ⟨by assumption,rfl⟩)⟩,_,rfl,HF.o _⟩
     ·go_ret
      rw[HEE.o]
      exact⟨⟨grownBy_trans (grownBy_below HB1.o) (grownBy_cell _ _ _ _),H1.o.cut m _ _ hm (.inl ⟨rfl,rfl⟩)⟩,_,rfl,HF.o _⟩
 ·have hc':¬(c:Int)=0:=by omega
  have HC:=Hm hc
  clear hc
  go_wp2
  go_ret
  have e:bytesC l c n=([],l,c):=by simp[bytesC,HC.o]
  rw[e]
  exact⟨⟨grownBy_refl _ _,H0.o⟩,_,rfl,HNil.o _⟩
def zig (n:Int):Nat:=if 0≤n then (2*n).toNat else (-(2*n)-1).toNat
def unzig (m:Nat):Int:=if m % 2=0 then (m / 2:Nat) else -((m / 2:Nat):Int)-1
theorem nat_flip (a:Nat) (h:a < 18446744073709551616):a ^^^ 18446744073709551615=18446744073709551615-a:=by
 have h64:(18446744073709551616:Nat)=2 ^ 64:=rfl
 apply Nat.eq_of_testBit_eq
 intro i
 rw[Nat.testBit_xor,show (18446744073709551615:Nat)=2 ^ 64-1 from rfl,Nat.testBit_two_pow_sub_one,show 2 ^ 64-1-a=2 ^ 64-(a+1) from by omega,Nat.testBit_two_pow_sub_succ (by rw[←h64];exact h)]
 by_cases hi:i < 64
 ·simp[hi]
 ·have:a.testBit i=false:=Nat.testBit_lt_two_pow (Nat.lt_of_lt_of_le (by rw[←h64];exact h) (Nat.pow_le_pow_right (by omega) (by omega)))
  simp[hi,this]
theorem wrap_u64_mod (n:Int):IntKind.u64.wrap n=n % 18446744073709551616:=by
 simp only[IntKind.wrap,IntKind.bits,IntKind.signed]
 simp
theorem u64_xor_nat (a b:Nat) (ha:a < 18446744073709551616) (hb:b < 18446744073709551616):Go.bits .xor .u64 (a:Int) (b:Int)=((a ^^^ b:Nat):Int):=by
 have hx:a ^^^ b < 2 ^ 64:=Nat.xor_lt_two_pow (by omega) (by omega)
 show IntKind.u64.wrap ((BitVec.ofInt 64 (a:Int) ^^^ BitVec.ofInt 64 (b:Int)).toNat:Int)=_
 rw[BitVec.toNat_xor,BitVec.toNat_ofInt,BitVec.toNat_ofInt,show ((a:Int) % (2 ^ 64:Nat)).toNat=a from by omega,show ((b:Int) % (2 ^ 64:Nat)).toNat=b from by omega,wrap_u64_mod]
 omega
theorem zig_bits (n:Int) (h1:-9223372036854775808≤n) (h2:n≤9223372036854775807) :
  Go.bits .xor .u64 (IntKind.u64.wrap (IntKind.u64.wrap n*2)) (IntKind.u64.wrap (n / 9223372036854775808))=(zig n:Nat):=by
 simp only[wrap_u64_mod]
 by_cases h:0≤n
 ·have e1:n % 18446744073709551616*2 % 18446744073709551616=(((2*n).toNat:Nat):Int):=by omega
  have e2:n / 9223372036854775808 % 18446744073709551616=((0:Nat):Int):=by omega
  rw[e1,e2,u64_xor_nat _ _ (by omega) (by omega),Nat.xor_zero,zig,if_pos h]
 ·have e1:n % 18446744073709551616*2 % 18446744073709551616=(((2*n+18446744073709551616).toNat:Nat):Int):=by omega
  have e2:n / 9223372036854775808 % 18446744073709551616=((18446744073709551615:Nat):Int):=by omega
  rw[e1,e2,u64_xor_nat _ _ (by omega) (by omega),nat_flip _ (by omega),zig,if_neg h]
  omega
theorem zig_lt (n:Int) (h1:-9223372036854775808≤n) (h2:n≤9223372036854775807):zig n < 18446744073709551616:=by
 unfold zig
 split<;>omega
theorem wrap_i64_nat (n:Nat):IntKind.i64.wrap (n:Int)=wrap64 n:=by
 simp only[IntKind.wrap,IntKind.bits,IntKind.signed]
 unfold wrap64
 simp
 omega
theorem unzig_bits (m:Nat) (h:m < 18446744073709551616) :
  Go.bits .xor .i64 (wrap64 ((m:Int) / 2)) (wrap64 (-wrap64 (Go.bits .and .u64 (m:Int) 1)))=unzig m:=by
 have e0:Go.bits .and .u64 (m:Int) 1=((m % 2:Nat):Int):=by
  have:=u64_and_nat m 1 h (by omega)
  rw[Nat.and_one_is_mod] at this
  exact this
 have e1:wrap64 ((m:Int) / 2)=((m / 2:Nat):Int):=by unfold wrap64;omega
 rw[e0,e1]
 show IntKind.i64.wrap ((BitVec.ofInt 64 ((m / 2:Nat):Int) ^^^ BitVec.ofInt 64 _).toNat:Int)=_
 rw[BitVec.toNat_xor,BitVec.toNat_ofInt,BitVec.toNat_ofInt,show (((m / 2:Nat):Int) % (2 ^ 64:Nat)).toNat=m / 2 from by omega,wrap_i64_nat]
 rcases Nat.mod_two_eq_zero_or_one m with h2|h2
 ·rw[h2,show (wrap64 (-wrap64 ((0:Nat):Int)) % (2 ^ 64:Nat)).toNat=0 from by kernel_rfl,Nat.xor_zero,unzig,if_pos h2]
  unfold wrap64
  omega
 ·rw[h2,show (wrap64 (-wrap64 ((1:Nat):Int)) % (2 ^ 64:Nat)).toNat=18446744073709551615 from by kernel_rfl,nat_flip _ (by omega),unzig,if_neg (by omega)]
  unfold wrap64
  omega
theorem unzig_zig (n:Int):unzig (zig n)=n:=by
 unfold zig
 split<;>(unfold unzig;split<;>omega)
theorem putInt_any (A:Option Addr) (ca:Nat) (b:List UInt8) (n:Int) (w:World) (hA:Bytes w A b) (hb:b.length≤10000000) (h1:-9223372036854775808≤n) (h2:n≤9223372036854775807) :
  Calls Tryz.prog 177 #[.slice A b.length ca,.int .i64 n] w λe w'=>Below w.heap.size w w'∧∃ v,e=.returned v∧OwnB w' w.heap.size v (b++leb (zig n)):=by
 have HA:=Hm hA
 have HB:=Hm hb
 have H1:=Hm h1
 have H2:=Hm h2
 clear hA hb h1 h2
 go_enter Tryz.func177,Tryz.ntmps177
 go_wp2_with fail
 have hz:=zig_bits n H1.o H2.o
 rw[hz]
 refine(put_any A ca b (zig n) w HA.o HB.o (zig_lt n H1.o H2.o)).mono ?_
 clear hz
 rintro e w' ⟨hb,v,rfl,ho⟩
 have HO:=Hm ho
 have HW:=Hm hb
 clear hb ho
 go_wp2
 go_ret
 exact⟨HW.o,_,rfl,HO.o⟩
theorem int_rd (p:Nat) (l:List UInt8) (c:Nat) (w:World) (h:RdAt w p l c) (hl:l.length≤10000000) :
  Calls Tryz.prog 151 #[.pointer (some ⟨p,0,none⟩)] w λe w'=>e=.returned (.int .i64 (unzig (numC l c).1))∧RdStep w w' p (numC l c).2.1 (numC l c).2.2:=by
 have H0:=Hm h
 have HL:=Hm hl
 clear h hl
 have HN:=Hm (numC_lt l c)
 go_enter Tryz.func151,Tryz.ntmps151
 go_wp2_with fail
 refine(num_rd p l c w H0.o HL.o).mono ?_
 rintro e w1 ⟨rfl,hs⟩
 have HS:=Hm hs
 clear hs
 go_wp2
 go_ret
 exact⟨ret_int (unzig_bits _ HN.o),HS.o⟩
end Go.Proofs.YtjkgligohegaeaaGreatDoor
namespace Go.Proofs.YtjkgligohegaeaaGreatDoor
theorem toNat_ofNat8 (n:Nat) (h:n < 256):(UInt8.ofNat n).toNat=n:=by simp;omega
theorem numGo_leb (l r:List UInt8) (n i acc:Nat) (hi:i≤9) (hn:n*128 ^ i < 18446744073709551616) (h0:0 < i→0 < n) :
  numGo l (leb n++r) i acc=(acc+n*128 ^ i,r,0):=by
 induction n using Nat.strongRecOn generalizing i acc with
 |ind n ih =>
  have h9:i=9→n≤1:=by
   rintro rfl
   have e:(128:Nat) ^ 9=9223372036854775808:=by decide
   rw[e] at hn
   omega
  by_cases hs:n < 128
  ·rw[leb_small hs,List.cons_append,List.nil_append,numGo,toNat_ofNat8 n (by omega),if_neg (by omega),if_pos hs]
  ·have hx:=toNat_ofNat8 (n % 128+128) (by omega)
   have hi8:i≠9:=λh=>by have:=h9 h;omega
   have e1:n / 128*128 ^ (i+1)=n / 128*128*128 ^ i:=by rw[Nat.pow_succ,Nat.mul_comm (128 ^ i),Nat.mul_assoc]
   have e2:n*128 ^ i=n % 128*128 ^ i+n / 128*128*128 ^ i:=by rw[←Nat.add_mul];congr 1;omega
   rw[leb_great hs,List.cons_append,numGo,hx,if_neg (by omega),if_neg (by omega),ih (n / 128) (by omega) (i+1) _ (by omega) (by rw[e1];omega) (by omega),show (n % 128+128) % 128=n % 128 from by omega,e1,e2,Nat.add_assoc]
theorem num_leb (n:Nat) (r:List UInt8) (h:n < 18446744073709551616):num (leb n++r)=(n,r,0):=by
 have:=numGo_leb (leb n++r) r n 0 0 (by omega) (by simpa using h) (by omega)
 simpa [num] using this
theorem numC_leb (n:Nat) (r:List UInt8) (h:n < 18446744073709551616):numC (leb n++r) 0=(n,r,0):=by rw[numC,if_pos rfl,num_leb n r h]
theorem belowC_leb (n:Nat) (r:List UInt8) (limit:Int) (h:(n:Int) < limit) (hl:limit < 4294967296):belowC (leb n++r) 0 limit=(n,r,0):=by
 rw[belowC,numC_leb n r (by omega)]
 simp only[if_true]
 rw[if_neg (by omega)]
def cstep (x:Nat):Nat:=x / 2 ^^^ (if x % 2=1 then 3988292384 else 0)
def csteps:Nat→Nat→Nat
 |0,x=>x
 |n+1,x=>csteps n (cstep x)
def cbyte (x c:Nat):Nat:=csteps 8 (x ^^^ c)
def cbytes (x:Nat) (l:List UInt8):Nat:=l.foldl (λx c=>cbyte x c.toNat) x
def csum (l:List UInt8):Nat:=cbytes 4294967295 l ^^^ 4294967295
theorem csteps_succ (n x:Nat):csteps (n+1) x=cstep (csteps n x):=by
 induction n generalizing x with
 |zero=>rfl
 |succ n ih=>rw[csteps,ih,←csteps]
theorem cstep_lt {x:Nat} (h:x < 4294967296):cstep x < 4294967296:=by
 unfold cstep
 have h2:x / 2 < 2 ^ 32:=by omega
 refine Nat.xor_lt_two_pow (n:=32) h2 ?_
 split<;>omega
theorem csteps_lt (n:Nat) {x:Nat} (h:x < 4294967296):csteps n x < 4294967296:=by
 induction n generalizing x with
 |zero=>exact h
 |succ n ih=>exact ih (cstep_lt h)
theorem cbyte_lt {x:Nat} (h:x < 4294967296) (c:UInt8):cbyte x c.toNat < 4294967296 :=
 csteps_lt 8 (Nat.xor_lt_two_pow (n:=32) h (by have:=c.toNat_lt;omega))
theorem cbytes_lt (l:List UInt8) {x:Nat} (h:x < 4294967296):cbytes x l < 4294967296:=by
 induction l generalizing x with
 |nil=>exact h
 |cons c l ih=>exact ih (cbyte_lt h c)
theorem csum_lt (l:List UInt8):csum l < 4294967296:=Nat.xor_lt_two_pow (n:=32) (cbytes_lt l (by decide)) (by decide)
theorem cbytes_append (l m:List UInt8) (x:Nat):cbytes x (l++m)=cbytes (cbytes x l) m:=by
 unfold cbytes;rw[List.foldl_append]
end Go.Proofs.YtjkgligohegaeaaGreatDoor
namespace Go.Proofs.YtjkgligohegaeaaGreatDoor
open Go.RowKit
theorem u32_xor_cast (a b:Nat) (ha:a < 4294967296) (hb:b < 4294967296):bits .xor .u32 (a:Int) (b:Int)=((a ^^^ b:Nat):Int):=u32_xor_nat a b ha hb
structure Part where
 a:Option Addr
 c:Nat
 l:List UInt8
def Part.v (p:Part):Value:=.slice p.a p.l.length p.c
def Parts (w:World) (A:Option Addr) (ps:List Part):Prop:=Row w A (ps.map Part.v)∧∀ p∈ps,Bytes w p.a p.l∧p.l.length≤9223372036854775807
theorem Parts.at_ {w:World} {A:Option Addr} {ps:List Part} (h:Parts w A ps) (j:Nat) (hj:j < ps.length) :
  ∃ b off,A=some ⟨b,off,none⟩∧w.cell? ⟨b,off+j,none⟩=some (.slice ps[j].a ps[j].l.length ps[j].c)∧Bytes w ps[j].a ps[j].l∧ps[j].l.length≤9223372036854775807:=by
 obtain⟨b,off,e,hc⟩:=h.1 j (by simpa using hj)
 exact⟨b,off,e,by rw[hc];simp[Part.v],h.2 _ (List.getElem_mem hj)⟩
theorem poly_and (b:Nat) (hb:b < 2):bits .and .u32 3988292384 (-(b:Int) % 4294967296)=((if b=1 then 3988292384 else 0:Nat):Int):=by
 have:b=0∨b=1:=by omega
 rcases this with rfl|rfl<;>decide +kernel
theorem cstep_walk (V:Nat) (h:V < 4294967296) :
  bits BinOp.xor IntKind.u32 ((V:Int) / 2) (bits BinOp.and IntKind.u32 3988292384 (-bits BinOp.and IntKind.u32 (V:Int) 1 % 4294967296))=(cstep V:Nat):=by
 have e1:bits BinOp.and IntKind.u32 (V:Int) 1=((V % 2:Nat):Int):=by
  rw[show (1:Int)=((1:Nat):Int) from rfl,u32_and_nat V 1 h (by omega),Nat.and_one_is_mod]
 rw[e1,poly_and _ (by omega),show ((V:Int) / 2)=((V / 2:Nat):Int) by omega,u32_xor_nat _ _ (by omega) (by split<;>omega)]
 rfl
theorem cbytes_snoc (X:Nat) (l:List UInt8) (j:Nat) (h:j < l.length):cbytes X (l.take (j+1))=csteps 8 (cbytes X (l.take j) ^^^ l[j].toNat):=by
 rw[List.take_succ_eq_append_getElem h,cbytes_append];rfl
theorem flat_snoc (ps:List Part) (k:Nat) (h:k < ps.length):((ps.take (k+1)).map Part.l).flatten=((ps.take k).map Part.l).flatten++ps[k].l:=by
 rw[List.take_succ_eq_append_getElem h,List.map_append,List.flatten_append];simp
theorem sum_any (A:Option Addr) (c:Nat) (ps:List Part) (w:World) (h:Parts w A ps) (hl:ps.length≤9223372036854775807) :
  Calls Tryz.prog 147 #[.slice A ps.length c] w λe w'=>e=.returned (.int .u32 (csum (ps.map Part.l).flatten:Nat))∧w=w':=by
 have H:=Hm h
 clear h
 go_enter Tryz.func147,Tryz.ntmps147
 go_wp2
 go_loop [3,10] (λx i=>∃ k:Nat,k≤ps.length∧i=.int .i64 k∧x=.int .u32 (cbytes 4294967295 ((ps.take k).map Part.l).flatten:Nat)) (λ_ i=>ps.length-(intOf i).toNat)
 case atStart=>exact⟨0,Nat.zero_le _,rfl,rfl⟩
 case round =>
  obtain⟨k,hk,rfl,rfl⟩:=hrel
  obtain⟨X,hX⟩:∃ X,X=cbytes 4294967295 ((ps.take k).map Part.l).flatten:=⟨_,rfl⟩
  rw[←hX]
  have hXl:X < 4294967296:=by rw[hX];exact cbytes_lt _ (by decide)
  have HX:=Hm hX
  clear hX
  by_cases hlt:k < ps.length
  ·obtain⟨b,off,rfl,hc,hb,hbl⟩:=H.o.at_ k hlt
   obtain⟨a2,c2,l2,hp⟩:∃ a2 c2 l2,ps[k]=⟨a2,c2,l2⟩:=⟨_,_,_,rfl⟩
   rw[hp] at hc hb hbl
   have HB:=Hm hb
   have HP:=Hm hp
   clear hb hp
   go_wp2
   go_loop [3,16] (λx i=>∃ j:Nat,j≤l2.length∧i=.int .i64 j∧x=.int .u32 (cbytes X (l2.take j):Nat)) (λ_ i=>l2.length-(intOf i).toNat)
   case atStart=>exact⟨0,Nat.zero_le _,rfl,rfl⟩
   case round =>
    obtain⟨j,hj,rfl,rfl⟩:=hrel
    obtain⟨Y,hY⟩:∃ Y,Y=cbytes X (l2.take j):=⟨_,rfl⟩
    rw[←hY]
    have hYl:Y < 4294967296:=by rw[hY];exact cbytes_lt _ hXl
    have HY:=Hm hY
    clear hY
    by_cases hlt2:j < l2.length
    ·obtain⟨b2,off2,rfl,hc2⟩:=HB.o.at_ j hlt2
     obtain⟨d,hd⟩:∃ d,d=l2[j].toNat:=⟨_,rfl⟩
     rw[←hd] at hc2
     have hcl:d < 256:=by rw[hd];exact l2[j].toNat_lt
     have HD:=Hm hd
     clear hd
     obtain⟨Z,hZ⟩:∃ Z,Z=Y ^^^ d:=⟨_,rfl⟩
     have e0:bits BinOp.xor IntKind.u32 (Y:Int) (d:Int)=(Z:Int):=by rw[hZ];exact u32_xor_cast _ _ hYl (by omega)
     have hZl:Z < 4294967296:=by rw[hZ];exact Nat.xor_lt_two_pow (n:=32) hYl (by omega)
     have HZ:=Hm hZ
     clear hZ hYl
     go_wp2
     go_loop [3,24] (λx i=>∃ m:Nat,m≤8∧i=.int .i64 m∧x=.int .u32 (csteps m Z:Nat)) (λ_ i=>8-(intOf i).toNat)
     case atStart=>exact⟨0,by omega,rfl,rfl⟩
     case round =>
      obtain⟨m,hm,rfl,rfl⟩:=hrel
      obtain⟨V,hV⟩:∃ V,V=csteps m Z:=⟨_,rfl⟩
      rw[←hV]
      have hVl:V < 4294967296:=by rw[hV];exact csteps_lt _ hZl
      have HV:=Hm hV
      clear hV
      by_cases hlt3:m < 8
      ·go_wp2
       go_round
       case rel =>
        refine⟨m+1,by omega,by go_num,?_⟩
        rw[cstep_walk V hVl,csteps_succ,HV.o]
       case measure=>simp[intOf];omega
      ·obtain rfl:m=8:=by omega
       clear e0 hZl hcl hVl
       go_wp2
       go_round
       case rel =>
        refine⟨j+1,by omega,by go_num,?_⟩
        rw[HV.o,HZ.o,HY.o,cbytes_snoc X l2 j hlt2,HD.o]
       case measure=>simp[intOf];omega
    ·obtain rfl:j=l2.length:=by omega
     go_wp2
     go_round
     case rel =>
      refine⟨k+1,by omega,by go_num,?_⟩
      rw[HY.o,HX.o,flat_snoc ps k hlt,cbytes_append,HP.o,List.take_length]
     case measure=>simp[intOf];omega
  ·obtain rfl:k=ps.length:=by omega
   go_wp2
   go_ret
   refine⟨ret_int ?_,rfl⟩
   rw[show IntKind.u32.max=((4294967295:Nat):Int) from by decide +kernel,u32_xor_nat _ _ (by decide) hXl,HX.o,List.take_length,Nat.xor_comm]
   rfl
def four (n:Nat):List UInt8:=[UInt8.ofNat (n % 256),UInt8.ofNat (n / 256 % 256),UInt8.ofNat (n / 65536 % 256),UInt8.ofNat (n / 16777216 % 256)]
theorem sum4 (k:UInt8) (A:Option Addr) (ca:Nat) (b:List UInt8) (w:World) (hA:Bytes w A b) (hb:b.length≤10000000) :
  Calls Tryz.prog 120 #[byteV k,.slice A b.length ca] w λe w'=>e=.returned (.agg ((four (csum (k :: b))).map byteV).toArray)∧Below w.heap.size w w':=by
 have HA:=Hm hA
 have HB:=Hm hb
 clear hA hb
 unfold byteV
 have hx8:=UInt8.toNat_lt k
 have hp:∀ w1 w2 w3:World,w1=w.alloc (.cells #[.int .u8 0,.int .u8 0,.int .u8 0,.int .u8 0] 232)→w2=w1.alloc (.cells #[.int .u8 k.toNat] 5) →
   w3=w2.alloc (.cells #[.slice (some ⟨w.heap.size+1,0,none⟩) 1 1,.slice A b.length ca] 38) →
   Parts w3 (some ⟨w.heap.size+1+1,0,none⟩) [⟨some ⟨w.heap.size+1,0,none⟩,1,[k]⟩,⟨A,ca,b⟩]:=by
  rintro w1 w2 w3 rfl rfl rfl
  refine⟨by simpa [Part.v] using row_new ((w.alloc (.cells #[.int .u8 0,.int .u8 0,.int .u8 0,.int .u8 0] 232)).alloc (.cells #[.int .u8 k.toNat] 5)) [.slice (some ⟨w.heap.size+1,0,none⟩) 1 1,.slice A b.length ca] 38 (0,0),?_⟩
  intro p hp
  simp only[List.mem_cons,List.not_mem_nil,or_false] at hp
  rcases hp with rfl|rfl
  ·refine⟨?_,by simp⟩
   have:=row_new (w.alloc (.cells #[.int .u8 0,.int .u8 0,.int .u8 0,.int .u8 0] 232)) [.int .u8 k.toNat] 5 (0,0)
   simp at this
   exact Row.below this ((Below.refl _ _).alloc (Nat.le_refl _) _)
  ·exact⟨Row.below HA.o ((((Below.refl _ _).alloc (Nat.le_refl _) _).alloc (by simp) _).alloc (by simp;omega) _),by have:=HB.o;simp only;omega⟩
 have HP:=Hm (hp _ _ _ rfl rfl rfl)
 clear hp
 go_enter Tryz.func120,Tryz.ntmps120
 go_wp2_with fail
 refine(sum_any _ _ _ _ HP.o (by simp)).mono ?_
 rintro e w' ⟨rfl,rfl⟩
 have hn:csum (k :: b) < 4294967296:=csum_lt _
 simp only[List.map_cons,List.map_nil,List.flatten_cons,List.flatten_nil,List.append_nil,List.cons_append,List.nil_append]
 obtain⟨n,hnn⟩:∃ n,csum (k :: b)=n:=⟨_,rfl⟩
 rw[hnn] at hn⊢
 have HE:=Hm hnn
 have HN:=Hm hn
 clear hn hnn
 go_wp2
 refine bodyPost_ret (v:=.agg #[.int .u8 ((n:Int) % 256),.int .u8 ((n:Int) / 256 % 256),.int .u8 ((n:Int) / 65536 % 256),.int .u8 ((n:Int) / 16777216 % 256)]) (by simp[results,Tryz.results120,go_sem]) rfl ⟨?_,?_⟩
 ·rw[HE.o]
  have hb:∀ m:Nat,(m:Int)=((UInt8.ofNat m).toNat:Nat)∨256≤m:=λm=>by
   rcases Nat.lt_or_ge m 256 with h|h
   ·exact .inl (by rw[toNat_ofNat8 m h])
   ·exact .inr h
  congr 2
  simp only[four,List.map_cons,List.map_nil]
  have e1:=toNat_ofNat8 (n % 256) (by omega)
  have e2:=toNat_ofNat8 (n / 256 % 256) (by omega)
  have e3:=toNat_ofNat8 (n / 65536 % 256) (by omega)
  have e4:=toNat_ofNat8 (n / 16777216 % 256) (by omega)
  rw[e1,e2,e3,e4]
  simp
 ·exact(((Below.refl _ _).alloc (Nat.le_refl _) _).alloc (by simp) _).alloc (by simp;omega) _
def layF (k:UInt8) (b:List UInt8):List UInt8:=111 :: k :: leb b.length++four (csum (k :: b))++b
theorem own_below {w w':World} {base:Nat} {e:TypeId} {size n:Nat} {v:Value} {xs:List Value} (h:w.ownsRow base e size v n xs) (hb:Below w.heap.size w w'):w'.ownsRow base e size v n xs:=by
 obtain⟨h1,h2⟩:=h
 refine⟨h1,?_⟩
 rcases h2 with h2|⟨g,cap,cur,hv,hg,hh,h3⟩
 ·exact .inl h2
 ·exact .inr ⟨g,cap,cur,hv,hg,by rw[hb.block g (Array.getElem?_eq_some_iff.1 hh).1];exact hh,h3⟩
theorem own_base {w:World} {base base':Nat} {e:TypeId} {size n:Nat} {v:Value} {xs:List Value} (h:w.ownsRow base e size v n xs) (hb:base'≤base):w.ownsRow base' e size v n xs:=by
 obtain⟨h1,h2⟩:=h
 refine⟨h1,?_⟩
 rcases h2 with h2|⟨g,cap,cur,hv,hg,h3⟩
 ·exact .inl h2
 ·exact .inr ⟨g,cap,cur,hv,by omega,h3⟩
theorem lay_any (k:UInt8) (A:Option Addr) (ca:Nat) (b:List UInt8) (w:World) (hA:Bytes w A b) (hb:b.length≤65536) :
  Calls Tryz.prog 84 #[byteV k,.slice A b.length ca] w λe w'=>Below w.heap.size w w'∧∃ v,e=.returned (.tuple #[v,.int .i64 0])∧OwnB w' w.heap.size v (layF k b):=by
 have HA:=Hm hA
 have HB:=Hm hb
 have hb':¬(65536:Int) < (b.length:Int):=by omega
 clear hA hb
 obtain⟨i0,hi,hz0,hz1,hz2⟩:=info_parts infoByte
 have HI:=Hm (And.intro hi (And.intro hz0 (And.intro hz1 hz2)))
 clear hi hz0 hz1 hz2
 have hr:Bytes (w.alloc (.cells #[.int .u8 111,.int .u8 k.toNat] 5)) (some ⟨w.heap.size,0,none⟩) [111,k]:=by
  have:=row_new w [.int .u8 111,.int .u8 k.toNat] 5 (0,0)
  simpa [Bytes,byteV] using this
 have HR:=Hm hr
 clear hr
 go_enter Tryz.func84,Tryz.ntmps84
 show Code.wp _ _ _ _ _
 unfold byteV
 go_wp2_with fail
 refine(put_any (some ⟨w.heap.size,0,none⟩) 2 [111,k] b.length _ HR.o (by simp) (by have:=HB.o;omega)).mono ?_
 rintro e w1 ⟨hb1,v1,rfl,ho1⟩
 have HB1:Hd (Below w.heap.size w w1):=⟨((Below.refl w.heap.size w).alloc (Nat.le_refl _) _).trans (hb1.mono (by simp))⟩
 have HO1:=Hm ho1
 clear hb1 ho1
 go_wp2_with fail
 refine(sum4 k A ca b w1 (HA.o.below HB1.o) (by have:=HB.o;omega)).mono ?_
 obtain⟨c0,c1,c2,c3,h4⟩:∃ c0 c1 c2 c3,four (csum (k :: b))=[c0,c1,c2,c3]:=⟨_,_,_,_,rfl⟩
 rw[h4]
 have H4:=Hm h4
 clear h4
 rintro e w2 ⟨rfl,hb2⟩
 have HB2:=Hm (HB1.o.trans (hb2.mono HB1.o.size))
 have HO2:=Hm (own_base (own_below HO1.o hb2) (by simp):w2.ownsRow w.heap.size 5 1 v1 _ _)
 clear hb2 HO1 hb'
 simp only[List.map_cons,List.map_nil,byteV]
 have hln:(leb b.length).length≤10:=leb_len10 (by have:=HB.o;omega)
 have HLN:=Hm hln
 clear hln
 go_wp2_with (first
  |(at_builtin;refine wpList_append_row rfl (.tmp 20) (.tmp 21) 38 rfl w.heap.size 5 i0 (.int .u8 0) 1 Tryz.underlying38 HI.o.1 HI.o.2.1 HI.o.2.2.1 HI.o.2.2.2 rfl v1 _ _ rfl (HO2.o.alloc _) (some ⟨w2.heap.size,0,none⟩) 4 4 [.int .u8 c0.toNat,.int .u8 c1.toNat,.int .u8 c2.toNat,.int .u8 c3.toNat] rfl rfl (row_new _ _ _ _) ?y0 ?y1 ?y2 ?y3 ?y4))
 case y0=>first|rfl|(intro u hu;simp at hu;rcases hu with rfl|rfl|rfl|rfl<;>rfl)
 case y1=>have:=HLN.o;simp;omega
 case y2=>have:=HLN.o;unfold maxLen;simp;omega
 case y3=>have:=HB2.o.size;simp;omega
 case y4 =>
  intro v3 w3 ho3 hg3
  have HB3:Hd (Below w.heap.size w w3):=⟨(HB2.o.alloc HB2.o.size _).grown hg3 (by have:=HB2.o.size;simp;omega) (λk hk=>(HO2.o.lt k hk).1)⟩
  have HO3:=Hm ho3
  clear ho3 hg3
  go_wp2_with (first
   |(at_builtin;refine wpList_append_row rfl (.tmp 22) (.tmp 23) 38 rfl w.heap.size 5 i0 (.int .u8 0) 1 Tryz.underlying38 HI.o.1 HI.o.2.1 HI.o.2.2.1 HI.o.2.2.2 rfl v3 _ _ rfl HO3.o A b.length ca (b.map byteV) rfl (by simp) (HA.o.below HB3.o) ?z0 ?z1 ?z2 ?z3 ?z4))
  case z0=>exact byte_one
  case z1=>have:=HLN.o;have:=HB.o;simp;omega
  case z2=>have:=HLN.o;have:=HB.o;unfold maxLen;simp;omega
  case z3=>exact HB3.o.size
  case z4 =>
   intro v4 w4 ho4 hg4
   have HB4:Hd (Below w.heap.size w w4):=⟨HB3.o.grown hg4 HB3.o.size (λk hk=>(HO3.o.lt k hk).1)⟩
   have HO4:=Hm ho4
   clear ho4 hg4
   go_wp2_with fail
   go_ret2
   refine⟨HB4.o,_,rfl,?_⟩
   unfold OwnB layF
   rw[H4.o]
   have:=HO4.o
   simpa [byteV,Nat.add_assoc,Nat.add_comm,Nat.add_left_comm] using this
end Go.Proofs.YtjkgligohegaeaaGreatDoor
namespace Go.Proofs.YtjkgligohegaeaaGreatDoor
def Post1 (o:Oper) (D:List Deferred) (post:Value→World→Prop):Exit→Act→World→Prop:=λe a w=>e=.normal∧a.defers=D∧post (match o.dst with|some d=>a.tmps.getD d undef|none=>undef) w
def plainOp:Op→Bool
 |.select _ _=>false
 |_=>true
theorem getD_put (a:Act) (d:Nat) (v:Value) (h:d < a.tmps.size):(a.put (some d) v).tmps.getD d undef=v:=by
 simp[Act.put,h]
section
variable {P:Program} {ops:Array Oper}
theorem one_op {o:Oper} {i:Nat} {a a':Act} {w:World} {post:Value→World→Prop} {Q:Exit→Act→World→Prop} {K:Act→World→Prop}
  (hi:ops[i]?=some o) (h:wpList P ops (Post1 o a.defers post) [o] a w) (hd:∀ d,o.dst=some d→d < a.tmps.size) (hs:plainOp o.op=true)
  (heq:∀ x∈o.op.operands,a'.eval x=a.eval x) (hwt:Region.wanted o (yielded ops a'.tmps)=Region.wanted o (yielded ops a.tmps))
  (hK:∀ v w',post (match o.dst with|some _=>v|none=>undef) w'→K (a'.put o.dst v) w'):wpOp P ops Q i K a' w:=by
 have hns:∀ cs b,o.op≠.select cs b:=λcs b e=>by rw[e] at hs;cases hs
 have hval:∀ v w',Post1 o a.defers post .normal (a.put o.dst v) w'→K (a'.put o.dst v) w':=by
  intro v w' hp
  refine hK v w' ?_
  have:=hp.2.2
  cases hdst:o.dst with
  |none=>rw[hdst] at this;exact this
  |some d=>rw[hdst] at this;rw[←getD_put a d v (hd d hdst)];exact this
 unfold wpOp
 simp only[hi]
 simp only[wpList] at h
 rw[hwt]
 split
 ·rename_i hw
  rw[if_pos hw] at h
  rcases h with h|⟨_,b,wb,hb,_⟩
  ·left
   unfold Oper.wp at h⊢
   rw[execOp_congr o hns heq]
   generalize (execOp a.eval o).run P w=r at h
   cases r with
   |ok n w' =>
    cases n with
    |value v=>exact hval _ _ h
    |skip=>exact hval _ _ h
    |defer d =>
     have he:=congrArg List.length h.2.1
     cases hdst:o.dst<;>simp[Act.put,hdst] at he
    |enter f args =>
     refine Calls.mono h λe w'' he=>?_
     cases e with
     |returned v=>exact hval _ _ he
     |panicked c=>exact absurd he.1 (by simp)
     |outgrown=>obtain⟨_,_,hb,_⟩:=he;cases hb
    |row r args=>exact Rows.mono h λv w'' he=>hval _ _ he
    |_=>exact h.elim
   |halt x w' =>
    cases x with
    |panic v=>exact absurd h.1 (by simp)
    |_=>exact h.elim
  ·cases hb
 ·rename_i hw
  rw[if_neg hw] at h
  exact hval _ _ h
def depsOf (o:Oper):List Nat:=o.after.toList.filterMap λe=>if Region.binds .any e then some e.on else none
def dstOf (ops:Array Oper) (j:Nat):Option Nat:=(ops[j]?).bind Oper.dst
def relyOk (ops:Array Oper):Bool :=
 (List.range ops.size).all λi=>match ops[i]? with
  |none=>true
  |some o=>plainOp o.op &&
   (depsOf o).all (λj=>decide (j < i)) &&
   (o.looksAt ops).all (λt =>
    (depsOf o).any (λj=>(dstOf ops j) == some t) ||
    (List.range ops.size).all (λk=>(dstOf ops k) != some t || ((ops[k]?).map (λp=>(depsOf p).contains i)).getD false)) &&
   (List.range ops.size).all (λk=>k == i || (o.dst.isNone || (dstOf ops k) != o.dst))
def Known (G:Nat→Value→World→Prop) (vs:Nat→Value) (w:World):List Nat→Prop
 |[]=>True
 |j :: js=>G j (vs j) w∧Known G vs w js
theorem Known.mem {G:Nat→Value→World→Prop} {vs:Nat→Value} {w:World}:∀ {l:List Nat},(∀ j∈l,G j (vs j) w)→Known G vs w l
 |[],_=>trivial
 |j :: js,h=>⟨h j (by simp),Known.mem λk hk=>h k (by simp[hk])⟩
def putsOn (ops:Array Oper) (vs:Nat→Value):List Nat→Act→Act
 |[],a=>a
 |j :: js,a=>putsOn ops vs js (a.put (dstOf ops j) (vs j))
theorem put_size (a:Act) (d:Option Nat) (v:Value):(a.put d v).tmps.size=a.tmps.size:=by cases d<;>simp[Act.put]
theorem put_defers (a:Act) (d:Option Nat) (v:Value):(a.put d v).defers=a.defers:=by cases d<;>rfl
theorem putsOn_size (ops:Array Oper) (vs:Nat→Value):∀ (l:List Nat) (a:Act),(putsOn ops vs l a).tmps.size=a.tmps.size
 |[],_=>rfl
 |j :: js,a=>by rw[putsOn,putsOn_size ops vs js,put_size]
theorem putsOn_defers (ops:Array Oper) (vs:Nat→Value):∀ (l:List Nat) (a:Act),(putsOn ops vs l a).defers=a.defers
 |[],_=>rfl
 |j :: js,a=>by rw[putsOn,putsOn_defers ops vs js,put_defers]
theorem put_get (a:Act) (d:Option Nat) (v:Value) (t:Nat):(a.put d v).tmps[t]?=if d=some t∧t < a.tmps.size then some v else a.tmps[t]?:=by
 cases d with
 |none=>simp[Act.put]
 |some e =>
  simp only[Act.put,Array.getElem?_setIfInBounds,Option.some.injEq]
  by_cases h:e=t
  ·subst h
   by_cases h2:e < a.tmps.size<;>simp[h2]
  ·simp[h]
theorem putsOn_other (ops:Array Oper) (vs:Nat→Value) (t:Nat):∀ (l:List Nat) (a:Act),(∀ j∈l,dstOf ops j≠some t)→(putsOn ops vs l a).tmps[t]?=a.tmps[t]?
 |[],_,_=>rfl
 |j :: js,a,h=>by
  rw[putsOn,putsOn_other ops vs t js _ (λk hk=>h k (by simp[hk])),put_get,if_neg]
  intro hh
  exact h j (by simp) hh.1
theorem putsOn_at (ops:Array Oper) (vs:Nat→Value) (t j:Nat) (hd:dstOf ops j=some t) (hone:∀ k,dstOf ops k=some t→k=j) :
  ∀ (l:List Nat) (a:Act),t < a.tmps.size→j∈l→(putsOn ops vs l a).tmps[t]?=some (vs j)
 |[],_,_,h=>absurd h (by simp)
 |k :: ks,a,hs,h=>by
  by_cases hm:j∈ks
  ·rw[putsOn]
   exact putsOn_at ops vs t j hd hone ks _ (by rw[put_size];exact hs) hm
  ·obtain rfl:j=k:=by simpa [hm] using h
   rw[putsOn,putsOn_other ops vs t ks _ (λi hi e=>hm (by rw[←hone i e];exact hi)),put_get,if_pos ⟨hd,hs⟩]
structure Sofar (ops:Array Oper) (G:Nat→Value→World→Prop) (R:World→World→Prop) (a:Act) (w0:World) (vs:Nat→Value) (listed:Array Bool) (a':Act) (w':World):Prop where
 size:listed.size=ops.size
 closed:∀ i o,ops[i]?=some o→listed.getD i false=true→∀ j∈depsOf o,listed.getD j false=true
 rel:R w0 w'
 known:∀ j,j < ops.size→listed.getD j false=true→G j (vs j) w'
 len:a'.tmps.size=a.tmps.size
 defers:a'.defers=a.defers
 done:∀ t j,t < a.tmps.size→dstOf ops j=some t→listed.getD j false=true→a'.tmps[t]?=some (vs j)
 rest:∀ t,(∀ j,dstOf ops j=some t→listed.getD j false=false)→a'.tmps[t]?=a.tmps[t]?
theorem lt_of_dst {ops:Array Oper} {j t:Nat} (h:dstOf ops j=some t):j < ops.size:=by
 unfold dstOf at h
 rcases Nat.lt_or_ge j ops.size with h'|h'
 ·exact h'
 ·rw[Array.getElem?_eq_none h'] at h;cases h
theorem relyOk_at {ops:Array Oper} (h:relyOk ops=true) {i:Nat} {o:Oper} (hi:ops[i]?=some o) :
  plainOp o.op=true∧(∀ j∈depsOf o,j < i) ∧
  (∀ t∈o.looksAt ops,(∃ j∈depsOf o,dstOf ops j=some t)∨∀ k,dstOf ops k=some t→∃ p,ops[k]?=some p∧i∈depsOf p) ∧
  (∀ t k,o.dst=some t→dstOf ops k=some t→k=i):=by
 have hlt:i < ops.size:=(Array.getElem?_eq_some_iff.1 hi).1
 have h1:=List.all_eq_true.1 h i (List.mem_range.2 hlt)
 simp only[hi,Bool.and_eq_true] at h1
 obtain⟨⟨⟨h2,h3⟩,h4⟩,h5⟩:=h1
 refine⟨h2,λj hj=>of_decide_eq_true (List.all_eq_true.1 h3 j hj),λt ht=>?_,λt k hd hk=>?_⟩
 ·have:=List.all_eq_true.1 h4 t ht
  rw[Bool.or_eq_true] at this
  rcases this with hA|hB
  ·obtain⟨j,hj,e⟩:=List.any_eq_true.1 hA
   exact .inl ⟨j,hj,by simpa using e⟩
  ·refine .inr λk hk=>?_
   have hkl:=lt_of_dst hk
   have:=List.all_eq_true.1 hB k (List.mem_range.2 hkl)
   obtain⟨p,hp⟩:∃ p,ops[k]?=some p:=⟨_,Array.getElem?_eq_getElem hkl⟩
   rw[hk,hp] at this
   simp at this
   exact⟨p,hp,this⟩
 ·have hkl:=lt_of_dst hk
  have:=List.all_eq_true.1 h5 k (List.mem_range.2 hkl)
  rw[hk,hd] at this
  simpa using this
theorem ready_mem {ops:Array Oper} {listed:Array Bool} {i:Nat} (h:i∈Region.ready .any ops listed) :
  ∃ o,ops[i]?=some o∧listed.getD i true=false∧∀ j∈depsOf o,listed.getD j false=true:=by
 unfold Region.ready at h
 rw[List.mem_filter] at h
 obtain⟨h1,h2⟩:=h
 have hlt:=List.mem_range.1 h1
 obtain⟨o,ho⟩:∃ o,ops[i]?=some o:=⟨_,Array.getElem?_eq_getElem hlt⟩
 rw[ho] at h2
 simp only[Option.map_some,Option.getD_some,Bool.and_eq_true,Bool.not_eq_true'] at h2
 refine⟨o,ho,h2.1,λj hj=>?_⟩
 unfold depsOf at hj
 obtain⟨e,he,hj⟩:=List.mem_filterMap.1 hj
 split at hj
 ·rename_i hb
  cases hj
  obtain⟨n,hn,rfl⟩:=List.mem_iff_getElem.1 he
  have:=Array.all_eq_true.1 h2.2 n (by simpa using hn)
  simp only[Array.getElem_toList] at hb
  rw[hb] at this
  simpa using this
 ·cases hj
theorem ready_nil {ops:Array Oper} {listed:Array Bool} (hok:relyOk ops=true) (hsz:listed.size=ops.size) (h:Region.ready .any ops listed=[]):∀ i,i < ops.size→listed.getD i false=true:=by
 intro i
 induction i using Nat.strongRecOn with
 |_ i ih =>
  intro hi
  rcases hl:listed.getD i false with _|_
  ·exfalso
   obtain⟨o,ho⟩:∃ o,ops[i]?=some o:=⟨_,Array.getElem?_eq_getElem hi⟩
   have hm:i∈Region.ready .any ops listed:=by
    unfold Region.ready
    rw[List.mem_filter]
    refine⟨List.mem_range.2 hi,?_⟩
    rw[ho]
    simp only[Option.map_some,Option.getD_some,Bool.and_eq_true,Bool.not_eq_true']
    refine⟨?_,?_⟩
    ·simp only[Array.getD_eq_getD_getElem?,Array.getElem?_eq_getElem (show i < listed.size by omega),Option.getD_some] at hl⊢
     exact hl
    ·rw[Array.all_eq_true]
     intro n hn
     rcases hb:Region.binds .any o.after[n] with _|_
     ·rfl
     ·have hj:o.after[n].on∈depsOf o:=List.mem_filterMap.2 ⟨o.after[n],by simp,by rw[if_pos hb]⟩
      have hlt:=(relyOk_at hok ho).2.1 _ hj
      simpa using ih _ hlt (by omega)
   rw[h] at hm
   cases hm
  ·rfl
def seen (ops:Array Oper) (o:Oper):Array Oper:=match o.guard with|none=>#[]|some _=>ops
theorem wpList_seen {P:Program} {ops:Array Oper} {Q:Exit→Act→World→Prop} {o:Oper} {a:Act} {w:World} (h:wpList P (seen ops o) Q [o] a w):wpList P ops Q [o] a w:=by
 cases hg:o.guard with
 |some g=>rwa [seen,hg] at h
 |none=>simpa [wpList,Region.wanted,hg] using h
def Obl (P:Program) (ops:Array Oper) (G:Nat→Value→World→Prop) (R:World→World→Prop) (a:Act) (w0:World):Nat→List Oper→Prop
 |_,[]=>True
 |i,o :: rest=>(∀ vs w',R w0 w'→Known G vs w' (depsOf o)→wpList P (seen ops o) (Post1 o a.defers (λv w''=>R w' w''∧G i v w'')) [o] (putsOn ops vs (depsOf o) a) w')∧Obl P ops G R a w0 (i+1) rest
theorem Obl.at_ {P:Program} {ops:Array Oper} {G:Nat→Value→World→Prop} {R:World→World→Prop} {a:Act} {w0:World}:∀ {l:List Oper} {k:Nat},Obl P ops G R a w0 k l→∀ j o,l[j]?=some o →
  ∀ vs w',R w0 w'→Known G vs w' (depsOf o)→wpList P ops (Post1 o a.defers (λv w''=>R w' w''∧G (k+j) v w'')) [o] (putsOn ops vs (depsOf o) a) w'
 |[],_,_,j,o,h=>by simp at h
 |o :: rest,k,h,j,o',ho=>by
  cases j with
  |zero=>simp only[List.getElem?_cons_zero,Option.some.injEq] at ho;subst ho;exact λvs w' h1 h2=>wpList_seen (h.1 vs w' h1 h2)
  |succ j =>
   have:=h.2.at_ j o' (by simpa using ho)
   rw[show k+1+j=k+(j+1) from by omega] at this
   exact this
theorem getD_set (listed:Array Bool) (i j:Nat) (hi:i < listed.size) (d:Bool):(listed.setIfInBounds i true).getD j d=if i=j then true else listed.getD j d:=by
 simp only[Array.getD_eq_getD_getElem?,Array.getElem?_setIfInBounds]
 by_cases h:i=j
 ·subst h;simp[hi]
 ·simp[h]
theorem eval_same {a a':Act} (x:Operand) (h:∀ t,x=.tmp t→a'.tmps[t]?=a.tmps[t]?):a'.eval x=a.eval x:=by
 cases x with
 |tmp t=>simp only[Act.eval,Array.getD_eq_getD_getElem?];rw[h t rfl]
 |_=>rfl
theorem looks_operand {ops:Array Oper} {o:Oper} {t:Nat} (h:Operand.tmp t∈o.op.operands):t∈o.looksAt ops :=
 List.mem_append_left _ (List.mem_filterMap.2 ⟨.tmp t,by simpa using h,rfl⟩)
theorem wanted_same {ops:Array Oper} {o:Oper} {a a':Act} (h:∀ t∈o.looksAt ops,a'.tmps[t]?=a.tmps[t]?):Region.wanted o (yielded ops a'.tmps)=Region.wanted o (yielded ops a.tmps):=by
 unfold Region.wanted
 cases hg:o.guard with
 |none=>rfl
 |some gw =>
  obtain⟨g,want⟩:=gw
  have hy:yielded ops a'.tmps g=yielded ops a.tmps g:=by
   unfold yielded
   cases ht:(ops[g]?).bind (·.dst) with
   |none=>rfl
   |some t =>
    have:=h t (by simp[Oper.looksAt,hg,ht])
    simp only[Option.bind_some,this]
  simp only[hy]
variable {P:Program} {ops:Array Oper} {Q:Exit→Act→World→Prop} {G:Nat→Value→World→Prop} {R:World→World→Prop} {a:Act} {w0:World}
theorem Sofar.frame {vs:Nat→Value} {listed:Array Bool} {a':Act} {w':World} (hok:relyOk ops=true) (h:Sofar ops G R a w0 vs listed a' w') (hall:∀ i,i < ops.size→listed.getD i false=true) :
  a'=putsOn ops vs (List.range ops.size) a:=by
 have ht:a'.tmps=(putsOn ops vs (List.range ops.size) a).tmps:=by
  refine Array.ext_getElem? λt=>?_
  by_cases hw:∃ j,dstOf ops j=some t
  ·obtain⟨j,hj⟩:=hw
   have hjl:=lt_of_dst hj
   by_cases hs:t < a.tmps.size
   ·rw[h.done t j hs hj (hall j hjl),putsOn_at ops vs t j hj (λk hk=>?_) _ _ hs (List.mem_range.2 hjl)]
    have hjl:=lt_of_dst hj
    obtain⟨o,ho⟩:∃ o,ops[j]?=some o:=⟨_,Array.getElem?_eq_getElem hjl⟩
    have hd:o.dst=some t:=by unfold dstOf at hj;rw[ho] at hj;exact hj
    exact(relyOk_at hok ho).2.2.2 t k hd hk
   ·rw[Array.getElem?_eq_none (by rw[h.len];omega),Array.getElem?_eq_none (by rw[putsOn_size];omega)]
  ·have hw':∀ j,dstOf ops j≠some t:=λj e=>hw ⟨j,e⟩
   rw[h.rest t (λj e=>absurd e (hw' j)),putsOn_other ops vs t _ _ (λj _=>hw' j)]
 have hd:a'.defers=(putsOn ops vs (List.range ops.size) a).defers:=by rw[h.defers,putsOn_defers]
 cases a'
 cases hq:putsOn ops vs (List.range ops.size) a
 rw[hq] at ht hd
 simp_all
theorem wpAny_rely (hok:relyOk ops=true) (htr:∀ w1 w2 w3,R w1 w2→R w2 w3→R w1 w3) (hst:∀ i v w1 w2,G i v w1→R w1 w2→G i v w2)
  (hdst:∀ j t,dstOf ops j=some t→t < a.tmps.size)
  (hob:Obl P ops G R a w0 0 ops.toList)
  (hend:∀ vs w',R w0 w'→Known G vs w' (List.range ops.size)→Q .normal (putsOn ops vs (List.range ops.size) a) w') :
  ∀ (fuel:Nat) (vs:Nat→Value) (listed:Array Bool) (a':Act) (w':World),(∀ m,m < fuel+1→True)→Sofar ops G R a w0 vs listed a' w' →
   ((List.range ops.size).filter λi=>!listed.getD i false).length≤fuel→wpAny P .any ops Q fuel listed a' w':=by
 have fin:∀ (vs:Nat→Value) (listed:Array Bool) (a':Act) (w':World),Sofar ops G R a w0 vs listed a' w'→Region.ready .any ops listed=[]→Q .normal a' w':=by
  intro vs listed a' w' h hr
  have hall:=ready_nil hok h.size hr
  rw[h.frame hok hall]
  exact hend vs w' h.rel (Known.mem λj hj=>h.known j (List.mem_range.1 hj) (hall j (List.mem_range.1 hj)))
 intro fuel
 induction fuel with
 |zero =>
  intro vs listed a' w' _ h hc
  have hr:Region.ready .any ops listed=[]:=by
   rw[List.eq_nil_iff_forall_not_mem]
   intro i hi
   obtain⟨o,ho,hl,_⟩:=ready_mem hi
   have hlt:i < ops.size:=(Array.getElem?_eq_some_iff.1 ho).1
   have:i∈(List.range ops.size).filter λi=>!listed.getD i false:=by
    rw[List.mem_filter]
    refine⟨List.mem_range.2 hlt,?_⟩
    simp only[Array.getD_eq_getD_getElem?,Array.getElem?_eq_getElem (show i < listed.size by rw[h.size];exact hlt),Option.getD_some] at hl⊢
    simp[hl]
   rw[List.eq_nil_of_length_eq_zero (Nat.le_zero.1 hc)] at this
   cases this
  exact⟨hr,fin vs listed a' w' h hr⟩
 |succ fuel ih =>
  intro vs listed a' w' _ h hc
  refine⟨fin vs listed a' w' h,λi hi=>?_⟩
  obtain⟨o,ho,hl,hdeps⟩:=ready_mem hi
  have hlt:i < ops.size:=(Array.getElem?_eq_some_iff.1 ho).1
  have hl':listed.getD i false=false:=by
   simp only[Array.getD_eq_getD_getElem?,Array.getElem?_eq_getElem (show i < listed.size by rw[h.size];exact hlt),Option.getD_some] at hl⊢
   exact hl
  obtain⟨hpl,hdl,hlook,hone⟩:=relyOk_at hok ho
  have hk:Known G vs w' (depsOf o):=Known.mem λj hj=>h.known j (Nat.lt_trans (hdl j hj) hlt) (hdeps j hj)
  have hob':=hob.at_ i o (by rw[Array.getElem?_toList];exact ho) vs w' h.rel hk
  rw[Nat.zero_add] at hob'
  have hsame:∀ t∈o.looksAt ops,a'.tmps[t]?=(putsOn ops vs (depsOf o) a).tmps[t]?:=by
   intro t ht
   rcases hlook t ht with ⟨j,hj,hd⟩|hbehind
   ·have hs:=hdst j t hd
    have hjl:=lt_of_dst hd
    obtain⟨oj,hoj⟩:∃ oj,ops[j]?=some oj:=⟨_,Array.getElem?_eq_getElem hjl⟩
    have hdj:oj.dst=some t:=by have:=hd;unfold dstOf at this;rw[hoj] at this;exact this
    rw[h.done t j hs hd (hdeps j hj),putsOn_at ops vs t j hd (λk hk=>(relyOk_at hok hoj).2.2.2 t k hdj hk) _ _ hs hj]
   ·rw[h.rest t (λk hk=>?_),putsOn_other ops vs t _ _ (λk hk e=>?_)]
    ·obtain⟨p,hp,hip⟩:=hbehind k e
     have:=(relyOk_at hok hp).2.1 i hip
     have:=hdl k hk
     omega
    ·rcases hkl:listed.getD k false with _|_
     ·rfl
     ·obtain⟨p,hp,hip⟩:=hbehind k hk
      have:=h.closed k p hp hkl i hip
      rw[hl'] at this
      cases this
  rw[←putsOn_defers ops vs (depsOf o) a] at hob'
  refine one_op ho hob' (λd hd=>by rw[putsOn_size];exact hdst i d (by unfold dstOf;rw[ho];exact hd)) hpl
   (λx hx=>eval_same x λt e=>hsame t (looks_operand (by rw[←e];exact hx))) (wanted_same hsame) ?_
  rintro v w'' ⟨hR,hG⟩
  have hset:∀ j d,(listed.setIfInBounds i true).getD j d=if i=j then true else listed.getD j d:=λj d=>getD_set listed i j (by rw[h.size];exact hlt) d
  have hdo:dstOf ops i=o.dst:=by unfold dstOf;rw[ho];rfl
  refine ih (λj=>if j=i then (match o.dst with|some _=>v|none=>undef) else vs j) _ _ _ (λ_ _=>trivial) ?_ ?_
  ·refine⟨by simp[h.size],?_,htr _ _ _ h.rel hR,?_,by rw[put_size];exact h.len,by rw[put_defers];exact h.defers,?_,?_⟩
   ·intro k p hp hkl j hj
    rw[hset] at hkl⊢
    by_cases hij:i=j
    ·rw[if_pos hij]
    ·rw[if_neg hij]
     by_cases hik:i=k
     ·subst hik
      rw[ho] at hp
      cases hp
      exact hdeps j hj
     ·rw[if_neg hik] at hkl
      exact h.closed k p hp hkl j hj
   ·intro j hjl hl2
    by_cases hij:j=i
    ·subst hij
     simp only[if_true]
     exact hG
    ·simp only[if_neg hij]
     rw[hset,if_neg (Ne.symm hij)] at hl2
     exact hst _ _ _ _ (h.known j hjl hl2) hR
   ·intro t j hs hd hl2
    rw[put_get]
    by_cases hij:j=i
    ·subst hij
     rw[hdo] at hd
     rw[if_pos ⟨hd,by rw[h.len];exact hs⟩]
     simp[hd]
    ·rw[hset,if_neg (Ne.symm hij)] at hl2
     rw[if_neg,if_neg hij,h.done t j hs hd hl2]
     rintro ⟨hd2,_⟩
     exact hij (hone t j hd2 hd)
   ·intro t hn
    rw[put_get,if_neg]
    ·refine h.rest t λj hd=>?_
     have:=hn j hd
     rw[hset] at this
     split at this
     ·cases this
     ·exact this
    ·rintro ⟨hd2,_⟩
     have:=hn i (by rw[hdo];exact hd2)
     rw[hset,if_pos rfl] at this
     cases this
  ·have hlt2:((List.range ops.size).filter λj=>!(listed.setIfInBounds i true).getD j false).length < ((List.range ops.size).filter λj=>!listed.getD j false).length:=by
    have e:((List.range ops.size).filter λj=>!(listed.setIfInBounds i true).getD j false)=(((List.range ops.size).filter λj=>!listed.getD j false).filter λj=>!(decide (i=j))):=by
     rw[List.filter_filter]
     refine List.filter_congr λj _=>?_
     rw[hset]
     by_cases hij:i=j<;>simp[hij]
    rw[e]
    refine List.length_filter_lt_length_iff_exists.2 ⟨i,?_,by simp⟩
    rw[List.mem_filter]
    exact⟨List.mem_range.2 hlt,by simp[hl']⟩
   omega
def dstOk (ops:Array Oper) (n:Nat):Bool:=ops.all λo=>match o.dst with|some d=>decide (d < n)|none=>true
theorem dstOk_at {n:Nat} (h:dstOk ops n=true):∀ j t,dstOf ops j=some t→t < n:=by
 intro j t hd
 have hj:=lt_of_dst hd
 have:=Array.all_eq_true.1 h j hj
 unfold dstOf at hd
 rw[Array.getElem?_eq_getElem hj] at hd
 simp only[Option.bind_some] at hd
 rw[hd] at this
 exact of_decide_eq_true this
theorem wp_region_rely {id:Nat} {l:List Oper} {w:World} (hm:P.follows .mixedOrders=true) (hok:relyOk l.toArray=true)
  (G:Nat→Value→World→Prop) (R:World→World→Prop) (hrefl:R w.drew w.drew) (htr:∀ w1 w2 w3,R w1 w2→R w2 w3→R w1 w3) (hst:∀ i v w1 w2,G i v w1→R w1 w2→G i v w2)
  {n:Nat} (hdst':dstOk l.toArray n=true) (hn:a.tmps.size=n)
  (hob:Obl P l.toArray G R a w.drew 0 l)
  (hend:∀ vs w',R w.drew w'→Known G vs w' (List.range l.length)→Q .normal (putsOn l.toArray vs (List.range l.length) a) w'):(Code.region id l.toArray true).wp P Q a w:=by
 have hdst:∀ j t,dstOf l.toArray j=some t→t < a.tmps.size:=by rw[hn];exact dstOk_at hdst'
 refine wp_region_any hm ?_
 refine wpAny_rely (w0:=w.drew) hok htr hst hdst (by simpa using hob) (by simpa using hend) _ (λ_=>undef) _ _ _ (λ_ _=>trivial) ?_ ?_
 ·have h0:∀ i,(Array.replicate l.toArray.size false).getD i false=false:=by
   intro i
   simp only[Array.getD_eq_getD_getElem?,Array.getElem?_replicate]
   split<;>rfl
  exact⟨by simp,λi o _ h=>(by rw[h0] at h;cases h),hrefl,λj _ h=>(by rw[h0] at h;cases h),rfl,rfl,λt j _ _ h=>(by rw[h0] at h;cases h),λ_ _=>rfl⟩
 ·refine Nat.le_trans (List.length_filter_le _ _) (by simp)
end
end Go.Proofs.YtjkgligohegaeaaGreatDoor
namespace Go.Proofs.YtjkgligohegaeaaGreatDoor
open Go.RowKit
structure Taken where
 kind:UInt8
 body:List UInt8
 size:Nat
 code:Nat
def takeF:List UInt8→Taken
 |m :: k :: t =>
  if m≠111 then ⟨0,[],0,7⟩ else
  let x:=num (t.take 10)
  let at_:=min (t.length+2) 12-x.2.1.length
  let size:=at_+4+x.1
  let body:=((m :: k :: t).drop (at_+4)).take x.1
  if x.2.2≠0 then ⟨0,[],0,x.2.2⟩ else
  if 65536 < x.1 then ⟨0,[],0,4⟩ else
  if t.length+2 < size then ⟨0,[],0,3⟩ else
  if four (csum (k :: body))≠((m :: k :: t).drop at_).take 4 then ⟨0,[],0,6⟩ else
  ⟨k,body,size,0⟩
 |_=>⟨0,[],0,3⟩
def TakePost (w:World) (b:List UInt8) (e:Ending) (w':World):Prop :=
 Below w.heap.size w w'∧∃ v,e=.returned (.tuple #[byteV (takeF b).kind,v,.int .i64 (takeF b).size,.int .i64 (takeF b).code])∧OwnB w' w.heap.size v (takeF b).body
theorem take_short (A:Option Addr) (ca:Nat) (b:List UInt8) (w:World) (h:b.length < 2):Calls Tryz.prog 93 #[.slice A b.length ca] w (TakePost w b):=by
 have hb':(b.length:Int) < 2:=by omega
 have ht:takeF b=⟨0,[],0,3⟩:=by
  match b,h with
  |[],_=>rfl
  |[_],_=>rfl
 have HT:=Hm ht
 clear h ht
 go_enter Tryz.func93,Tryz.ntmps93
 go_wp2
 refine bodyPost_ret (v:=.tuple #[.int .u8 0,.slice none 0 0,.int .i64 0,.int .i64 3]) (by simp[results,Tryz.results93,go_sem]) rfl ?_
 unfold TakePost
 rw[HT.o]
 exact⟨Below.refl _ _,_,rfl,rfl,.inl ⟨rfl,rfl⟩⟩
theorem take_magic (blk off:Nat) (ca:Nat) (m k:UInt8) (t:List UInt8) (w:World) (h:Bytes w (some ⟨blk,off,none⟩) (m :: k :: t)) (hm:m≠111) :
  Calls Tryz.prog 93 #[.slice (some ⟨blk,off,none⟩) (t.length+2) ca] w (TakePost w (m :: k :: t)):=by
 have hb':¬((t.length:Int)+2 < 2):=by omega
 have ht:takeF (m :: k :: t)=⟨0,[],0,7⟩:=by simp[takeF,hm]
 have HT:=Hm ht
 obtain⟨b',o',e,c0⟩:=h.at_ 0 (by simp)
 simp only[Option.some.injEq,Addr.mk.injEq,and_true] at e
 obtain⟨rfl,rfl⟩:=e
 simp only[Nat.add_zero,List.getElem_cons_zero] at c0
 have hm':¬((m.toNat:Int)=111):=by
  intro h2
  apply hm
  have:m.toNat=111:=by omega
  exact UInt8.toNat_inj.1 (by rw[this];rfl)
 generalize m.toNat=x at c0 hm'
 clear ht h hm
 go_enter Tryz.func93,Tryz.ntmps93
 go_wp2
 refine bodyPost_ret (v:=.tuple #[.int .u8 0,.slice none 0 0,.int .i64 0,.int .i64 7]) (by simp[results,Tryz.results93,go_sem]) rfl ?_
 unfold TakePost
 rw[HT.o]
 exact⟨Below.refl _ _,_,rfl,rfl,.inl ⟨rfl,rfl⟩⟩
theorem take_two (blk off:Nat) (ca:Nat) (k:UInt8) (w:World) (h:Bytes w (some ⟨blk,off,none⟩) [111,k]) (hca:2≤ca) :
  Calls Tryz.prog 93 #[.slice (some ⟨blk,off,none⟩) 2 ca] w (TakePost w [111,k]):=by
 have ht:takeF [111,k]=⟨0,[],0,3⟩:=by simp[takeF,num,numGo]
 have HT:=Hm ht
 obtain⟨b',o',e,c0⟩:=h.at_ 0 (by simp)
 simp only[Option.some.injEq,Addr.mk.injEq,and_true] at e
 obtain⟨rfl,rfl⟩:=e
 simp only[Nat.add_zero,List.getElem_cons_zero] at c0
 have e111:((111:UInt8).toNat:Int)=111:=by decide
 rw[e111] at c0
 clear ht h e111
 have HNew:Hd (∀ off' ca',Calls Tryz.prog 86 #[.slice (some ⟨blk,off',none⟩) 0 ca'] w λe w'=>Below w.heap.size w w'∧∃ p,e=.returned (.pointer (some ⟨p,0,none⟩))∧w.heap.size≤p∧RdAt w' p [] 0) :=
  ⟨λoff' ca'=>new_rd (some ⟨blk,off',none⟩) ca' [] w (Bytes.nil _ _) (by simp)⟩
 go_enter Tryz.func93,Tryz.ntmps93
 go_wp2_with fail
 all_goals
  refine(HNew.o _ _).mono ?_
  rintro e w1 ⟨hb1,p,rfl,hp,hrd⟩
  have HB1:=Hm hb1
  have HP:=Hm hp
  have HRd:=Hm hrd
  clear hb1 hp hrd
  go_wp2_with fail
  have hnum:=num_rd p [] 0 w1 HRd.o (by simp)
  rw[show numC [] 0=(0,[],3) from rfl] at hnum
  refine hnum.mono ?_
  clear hnum
  rintro e w2 ⟨rfl,hs⟩
  have HS:=Hm hs
  clear hs
  go_wp2_with fail
  refine(code_rd p [] 3 w2 HS.o.rd).mono ?_
  rintro e w3 ⟨rfl,rfl⟩
  have HB3:Hd (Below w.heap.size w w3):=⟨HB1.o.grown HS.o.grown HB1.o.size (λq hq=>by cases hq;exact HP.o)⟩
  go_wp2_with fail
  refine(code_rd p [] 3 w3 HS.o.rd).mono ?_
  rintro e w4 ⟨rfl,rfl⟩
  go_wp2
  refine bodyPost_ret (v:=.tuple #[.int .u8 0,.slice none 0 0,.int .i64 0,.int .i64 3]) (by simp[results,Tryz.results93,go_sem]) rfl ?_
  unfold TakePost
  rw[HT.o]
  exact⟨HB3.o,_,rfl,rfl,.inl ⟨rfl,rfl⟩⟩
end Go.Proofs.YtjkgligohegaeaaGreatDoor
