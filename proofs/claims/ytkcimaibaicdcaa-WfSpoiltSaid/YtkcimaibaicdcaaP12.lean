/- The law returns true at every input. No condition. A part of its proof. -/
import Derived.Test.YtkcimaibaicdcaaP11
set_option linter.unusedSimpArgs false
set_option linter.unusedVariables false
set_option maxHeartbeats 16000000
set_option maxRecDepth 100000
namespace Go.Proofs.Ytkcimaibaicdcaa.Tk
open Go.Tm Go.Tm.Tab
structure Mk where
 args:Int
 into:Int
 sym:Bool
 num:Bool
def markN:Nat→Mk
 |1|18=>⟨0,0,false,true⟩
 |2|3=>⟨0,0,true,false⟩
 |4|5|6|7|8|9|10|11|12|13|14|15|19|21=>⟨2,0,false,false⟩
 |16|20=>⟨1,0,false,false⟩
 |17=>⟨3,0,false,false⟩
 |22|23=>⟨-1,0,true,false⟩
 |24=>⟨1,0,true,false⟩
 |25|29=>⟨-1,0,false,false⟩
 |26=>⟨-1, -1,false,false⟩
 |27=>⟨0,1,false,false⟩
 |28=>⟨1,2,false,false⟩
 |_=>⟨0,0,false,false⟩
def markOf (op:Int):Mk:=if 0≤op then markN op.toNat else⟨0,0,false,false⟩
def markC (m:Mk):C:=.tup [int m.args,int m.into,bool m.sym,bool m.num]
theorem markOf_out {op:Int}(h:¬(0≤op∧op<32)):markOf op=⟨0,0,false,false⟩:=by
 unfold markOf
 split
 ·have:32≤op.toNat:=by omega
  generalize op.toNat=n at this
  obtain⟨k,rfl⟩:∃k,n=k+32:=⟨n-32,by omega⟩
  rfl
 ·rfl
theorem mark51_runs (op:Int):Runs Try.prog tab 1 51 [int op] (markC (markOf op)):=by
 refine Runs.by (rs:=[.tmp 2,.tmp 3,.tmp 4,.tmp 5]) (N:=47) rfl Try.func51 rfl rfl (by simp) fun k hk=>?_
 by_cases h:0≤op∧op<32
 ·obtain⟨j,hj,rfl⟩:∃j:Nat,j<32∧op=j:=⟨op.toNat,by omega,by omega⟩
  clear h
  rcases Nat.lt_or_ge j 16 with h16|h16
  ·skip
   rcases Nat.lt_or_ge j 8 with h8|h8
   ·skip
    rcases Nat.lt_or_ge j 4 with h4|h4
    ·skip
     rcases Nat.lt_or_ge j 2 with h2|h2
     ·skip
      rcases Nat.lt_or_ge j 1 with h1|h1
      ·skip
       obtain rfl:j=0:=by omega
       exact⟨_,_,rfl,rfl⟩
      ·skip
       obtain rfl:j=1:=by omega
       exact⟨_,_,rfl,rfl⟩
     ·skip
      rcases Nat.lt_or_ge j 3 with h3|h3
      ·skip
       obtain rfl:j=2:=by omega
       exact⟨_,_,rfl,rfl⟩
      ·skip
       obtain rfl:j=3:=by omega
       exact⟨_,_,rfl,rfl⟩
    ·skip
     rcases Nat.lt_or_ge j 6 with h6|h6
     ·skip
      rcases Nat.lt_or_ge j 5 with h5|h5
      ·skip
       obtain rfl:j=4:=by omega
       exact⟨_,_,rfl,rfl⟩
      ·skip
       obtain rfl:j=5:=by omega
       exact⟨_,_,rfl,rfl⟩
     ·skip
      rcases Nat.lt_or_ge j 7 with h7|h7
      ·skip
       obtain rfl:j=6:=by omega
       exact⟨_,_,rfl,rfl⟩
      ·skip
       obtain rfl:j=7:=by omega
       exact⟨_,_,rfl,rfl⟩
   ·skip
    rcases Nat.lt_or_ge j 12 with h12|h12
    ·skip
     rcases Nat.lt_or_ge j 10 with h10|h10
     ·skip
      rcases Nat.lt_or_ge j 9 with h9|h9
      ·skip
       obtain rfl:j=8:=by omega
       exact⟨_,_,rfl,rfl⟩
      ·skip
       obtain rfl:j=9:=by omega
       exact⟨_,_,rfl,rfl⟩
     ·skip
      rcases Nat.lt_or_ge j 11 with h11|h11
      ·skip
       obtain rfl:j=10:=by omega
       exact⟨_,_,rfl,rfl⟩
      ·skip
       obtain rfl:j=11:=by omega
       exact⟨_,_,rfl,rfl⟩
    ·skip
     rcases Nat.lt_or_ge j 14 with h14|h14
     ·skip
      rcases Nat.lt_or_ge j 13 with h13|h13
      ·skip
       obtain rfl:j=12:=by omega
       exact⟨_,_,rfl,rfl⟩
      ·skip
       obtain rfl:j=13:=by omega
       exact⟨_,_,rfl,rfl⟩
     ·skip
      rcases Nat.lt_or_ge j 15 with h15|h15
      ·skip
       obtain rfl:j=14:=by omega
       exact⟨_,_,rfl,rfl⟩
      ·skip
       obtain rfl:j=15:=by omega
       exact⟨_,_,rfl,rfl⟩
  ·skip
   rcases Nat.lt_or_ge j 24 with h24|h24
   ·skip
    rcases Nat.lt_or_ge j 20 with h20|h20
    ·skip
     rcases Nat.lt_or_ge j 18 with h18|h18
     ·skip
      rcases Nat.lt_or_ge j 17 with h17|h17
      ·skip
       obtain rfl:j=16:=by omega
       exact⟨_,_,rfl,rfl⟩
      ·skip
       obtain rfl:j=17:=by omega
       exact⟨_,_,rfl,rfl⟩
     ·skip
      rcases Nat.lt_or_ge j 19 with h19|h19
      ·skip
       obtain rfl:j=18:=by omega
       exact⟨_,_,rfl,rfl⟩
      ·skip
       obtain rfl:j=19:=by omega
       exact⟨_,_,rfl,rfl⟩
    ·skip
     rcases Nat.lt_or_ge j 22 with h22|h22
     ·skip
      rcases Nat.lt_or_ge j 21 with h21|h21
      ·skip
       obtain rfl:j=20:=by omega
       exact⟨_,_,rfl,rfl⟩
      ·skip
       obtain rfl:j=21:=by omega
       exact⟨_,_,rfl,rfl⟩
     ·skip
      rcases Nat.lt_or_ge j 23 with h23|h23
      ·skip
       obtain rfl:j=22:=by omega
       exact⟨_,_,rfl,rfl⟩
      ·skip
       obtain rfl:j=23:=by omega
       exact⟨_,_,rfl,rfl⟩
   ·skip
    rcases Nat.lt_or_ge j 28 with h28|h28
    ·skip
     rcases Nat.lt_or_ge j 26 with h26|h26
     ·skip
      rcases Nat.lt_or_ge j 25 with h25|h25
      ·skip
       obtain rfl:j=24:=by omega
       exact⟨_,_,rfl,rfl⟩
      ·skip
       obtain rfl:j=25:=by omega
       exact⟨_,_,rfl,rfl⟩
     ·skip
      rcases Nat.lt_or_ge j 27 with h27|h27
      ·skip
       obtain rfl:j=26:=by omega
       exact⟨_,_,rfl,rfl⟩
      ·skip
       obtain rfl:j=27:=by omega
       exact⟨_,_,rfl,rfl⟩
    ·skip
     rcases Nat.lt_or_ge j 30 with h30|h30
     ·skip
      rcases Nat.lt_or_ge j 29 with h29|h29
      ·skip
       obtain rfl:j=28:=by omega
       exact⟨_,_,rfl,rfl⟩
      ·skip
       obtain rfl:j=29:=by omega
       exact⟨_,_,rfl,rfl⟩
     ·skip
      rcases Nat.lt_or_ge j 31 with h31|h31
      ·skip
       obtain rfl:j=30:=by omega
       exact⟨_,_,rfl,rfl⟩
      ·skip
       obtain rfl:j=31:=by omega
       exact⟨_,_,rfl,rfl⟩
 ·rw[markOf_out h]
  have n1:decide (op=1)=false:=decide_eq_false (by omega)
  have n2:decide (op=2)=false:=decide_eq_false (by omega)
  have n3:decide (op=3)=false:=decide_eq_false (by omega)
  have n4:decide (op=4)=false:=decide_eq_false (by omega)
  have n5:decide (op=5)=false:=decide_eq_false (by omega)
  have n6:decide (op=6)=false:=decide_eq_false (by omega)
  have n7:decide (op=7)=false:=decide_eq_false (by omega)
  have n8:decide (op=8)=false:=decide_eq_false (by omega)
  have n9:decide (op=9)=false:=decide_eq_false (by omega)
  have n10:decide (op=10)=false:=decide_eq_false (by omega)
  have n11:decide (op=11)=false:=decide_eq_false (by omega)
  have n12:decide (op=12)=false:=decide_eq_false (by omega)
  have n13:decide (op=13)=false:=decide_eq_false (by omega)
  have n14:decide (op=14)=false:=decide_eq_false (by omega)
  have n15:decide (op=15)=false:=decide_eq_false (by omega)
  have n16:decide (op=16)=false:=decide_eq_false (by omega)
  have n17:decide (op=17)=false:=decide_eq_false (by omega)
  have n18:decide (op=18)=false:=decide_eq_false (by omega)
  have n19:decide (op=19)=false:=decide_eq_false (by omega)
  have n20:decide (op=20)=false:=decide_eq_false (by omega)
  have n21:decide (op=21)=false:=decide_eq_false (by omega)
  have n22:decide (op=22)=false:=decide_eq_false (by omega)
  have n23:decide (op=23)=false:=decide_eq_false (by omega)
  have n24:decide (op=24)=false:=decide_eq_false (by omega)
  have n25:decide (op=25)=false:=decide_eq_false (by omega)
  have n26:decide (op=26)=false:=decide_eq_false (by omega)
  have n27:decide (op=27)=false:=decide_eq_false (by omega)
  have n28:decide (op=28)=false:=decide_eq_false (by omega)
  have n29:decide (op=29)=false:=decide_eq_false (by omega)
  have n30:decide (op=30)=false:=decide_eq_false (by omega)
  simp +decide -implicitDefEqProofs only[k51,go_sem,n1,n2,n3,n4,n5,n6,n7,n8,n9,n10,n11,n12,n13,n14,n15,n16,n17,n18,n19,n20,n21,n22,n23,n24,n25,n26,n27,n28,n29,n30]
  exact⟨_,_,rfl,rfl⟩
theorem mark52_runs (op:Int):Runs Try.prog tab 1 52 [int op] (markC (markOf op)):=by
 refine Runs.by (rs:=[.tmp 2,.tmp 3,.tmp 4,.tmp 5]) (N:=47) rfl Try.func52 rfl rfl (by simp) fun k hk=>?_
 by_cases h:0≤op∧op<32
 ·obtain⟨j,hj,rfl⟩:∃j:Nat,j<32∧op=j:=⟨op.toNat,by omega,by omega⟩
  clear h
  rcases Nat.lt_or_ge j 16 with h16|h16
  ·skip
   rcases Nat.lt_or_ge j 8 with h8|h8
   ·skip
    rcases Nat.lt_or_ge j 4 with h4|h4
    ·skip
     rcases Nat.lt_or_ge j 2 with h2|h2
     ·skip
      rcases Nat.lt_or_ge j 1 with h1|h1
      ·skip
       obtain rfl:j=0:=by omega
       exact⟨_,_,rfl,rfl⟩
      ·skip
       obtain rfl:j=1:=by omega
       exact⟨_,_,rfl,rfl⟩
     ·skip
      rcases Nat.lt_or_ge j 3 with h3|h3
      ·skip
       obtain rfl:j=2:=by omega
       exact⟨_,_,rfl,rfl⟩
      ·skip
       obtain rfl:j=3:=by omega
       exact⟨_,_,rfl,rfl⟩
    ·skip
     rcases Nat.lt_or_ge j 6 with h6|h6
     ·skip
      rcases Nat.lt_or_ge j 5 with h5|h5
      ·skip
       obtain rfl:j=4:=by omega
       exact⟨_,_,rfl,rfl⟩
      ·skip
       obtain rfl:j=5:=by omega
       exact⟨_,_,rfl,rfl⟩
     ·skip
      rcases Nat.lt_or_ge j 7 with h7|h7
      ·skip
       obtain rfl:j=6:=by omega
       exact⟨_,_,rfl,rfl⟩
      ·skip
       obtain rfl:j=7:=by omega
       exact⟨_,_,rfl,rfl⟩
   ·skip
    rcases Nat.lt_or_ge j 12 with h12|h12
    ·skip
     rcases Nat.lt_or_ge j 10 with h10|h10
     ·skip
      rcases Nat.lt_or_ge j 9 with h9|h9
      ·skip
       obtain rfl:j=8:=by omega
       exact⟨_,_,rfl,rfl⟩
      ·skip
       obtain rfl:j=9:=by omega
       exact⟨_,_,rfl,rfl⟩
     ·skip
      rcases Nat.lt_or_ge j 11 with h11|h11
      ·skip
       obtain rfl:j=10:=by omega
       exact⟨_,_,rfl,rfl⟩
      ·skip
       obtain rfl:j=11:=by omega
       exact⟨_,_,rfl,rfl⟩
    ·skip
     rcases Nat.lt_or_ge j 14 with h14|h14
     ·skip
      rcases Nat.lt_or_ge j 13 with h13|h13
      ·skip
       obtain rfl:j=12:=by omega
       exact⟨_,_,rfl,rfl⟩
      ·skip
       obtain rfl:j=13:=by omega
       exact⟨_,_,rfl,rfl⟩
     ·skip
      rcases Nat.lt_or_ge j 15 with h15|h15
      ·skip
       obtain rfl:j=14:=by omega
       exact⟨_,_,rfl,rfl⟩
      ·skip
       obtain rfl:j=15:=by omega
       exact⟨_,_,rfl,rfl⟩
  ·skip
   rcases Nat.lt_or_ge j 24 with h24|h24
   ·skip
    rcases Nat.lt_or_ge j 20 with h20|h20
    ·skip
     rcases Nat.lt_or_ge j 18 with h18|h18
     ·skip
      rcases Nat.lt_or_ge j 17 with h17|h17
      ·skip
       obtain rfl:j=16:=by omega
       exact⟨_,_,rfl,rfl⟩
      ·skip
       obtain rfl:j=17:=by omega
       exact⟨_,_,rfl,rfl⟩
     ·skip
      rcases Nat.lt_or_ge j 19 with h19|h19
      ·skip
       obtain rfl:j=18:=by omega
       exact⟨_,_,rfl,rfl⟩
      ·skip
       obtain rfl:j=19:=by omega
       exact⟨_,_,rfl,rfl⟩
    ·skip
     rcases Nat.lt_or_ge j 22 with h22|h22
     ·skip
      rcases Nat.lt_or_ge j 21 with h21|h21
      ·skip
       obtain rfl:j=20:=by omega
       exact⟨_,_,rfl,rfl⟩
      ·skip
       obtain rfl:j=21:=by omega
       exact⟨_,_,rfl,rfl⟩
     ·skip
      rcases Nat.lt_or_ge j 23 with h23|h23
      ·skip
       obtain rfl:j=22:=by omega
       exact⟨_,_,rfl,rfl⟩
      ·skip
       obtain rfl:j=23:=by omega
       exact⟨_,_,rfl,rfl⟩
   ·skip
    rcases Nat.lt_or_ge j 28 with h28|h28
    ·skip
     rcases Nat.lt_or_ge j 26 with h26|h26
     ·skip
      rcases Nat.lt_or_ge j 25 with h25|h25
      ·skip
       obtain rfl:j=24:=by omega
       exact⟨_,_,rfl,rfl⟩
      ·skip
       obtain rfl:j=25:=by omega
       exact⟨_,_,rfl,rfl⟩
     ·skip
      rcases Nat.lt_or_ge j 27 with h27|h27
      ·skip
       obtain rfl:j=26:=by omega
       exact⟨_,_,rfl,rfl⟩
      ·skip
       obtain rfl:j=27:=by omega
       exact⟨_,_,rfl,rfl⟩
    ·skip
     rcases Nat.lt_or_ge j 30 with h30|h30
     ·skip
      rcases Nat.lt_or_ge j 29 with h29|h29
      ·skip
       obtain rfl:j=28:=by omega
       exact⟨_,_,rfl,rfl⟩
      ·skip
       obtain rfl:j=29:=by omega
       exact⟨_,_,rfl,rfl⟩
     ·skip
      rcases Nat.lt_or_ge j 31 with h31|h31
      ·skip
       obtain rfl:j=30:=by omega
       exact⟨_,_,rfl,rfl⟩
      ·skip
       obtain rfl:j=31:=by omega
       exact⟨_,_,rfl,rfl⟩
 ·rw[markOf_out h]
  have n1:decide (op=1)=false:=decide_eq_false (by omega)
  have n2:decide (op=2)=false:=decide_eq_false (by omega)
  have n3:decide (op=3)=false:=decide_eq_false (by omega)
  have n4:decide (op=4)=false:=decide_eq_false (by omega)
  have n5:decide (op=5)=false:=decide_eq_false (by omega)
  have n6:decide (op=6)=false:=decide_eq_false (by omega)
  have n7:decide (op=7)=false:=decide_eq_false (by omega)
  have n8:decide (op=8)=false:=decide_eq_false (by omega)
  have n9:decide (op=9)=false:=decide_eq_false (by omega)
  have n10:decide (op=10)=false:=decide_eq_false (by omega)
  have n11:decide (op=11)=false:=decide_eq_false (by omega)
  have n12:decide (op=12)=false:=decide_eq_false (by omega)
  have n13:decide (op=13)=false:=decide_eq_false (by omega)
  have n14:decide (op=14)=false:=decide_eq_false (by omega)
  have n15:decide (op=15)=false:=decide_eq_false (by omega)
  have n16:decide (op=16)=false:=decide_eq_false (by omega)
  have n17:decide (op=17)=false:=decide_eq_false (by omega)
  have n18:decide (op=18)=false:=decide_eq_false (by omega)
  have n19:decide (op=19)=false:=decide_eq_false (by omega)
  have n20:decide (op=20)=false:=decide_eq_false (by omega)
  have n21:decide (op=21)=false:=decide_eq_false (by omega)
  have n22:decide (op=22)=false:=decide_eq_false (by omega)
  have n23:decide (op=23)=false:=decide_eq_false (by omega)
  have n24:decide (op=24)=false:=decide_eq_false (by omega)
  have n25:decide (op=25)=false:=decide_eq_false (by omega)
  have n26:decide (op=26)=false:=decide_eq_false (by omega)
  have n27:decide (op=27)=false:=decide_eq_false (by omega)
  have n28:decide (op=28)=false:=decide_eq_false (by omega)
  have n29:decide (op=29)=false:=decide_eq_false (by omega)
  have n30:decide (op=30)=false:=decide_eq_false (by omega)
  simp +decide -implicitDefEqProofs only[k52,go_sem,n1,n2,n3,n4,n5,n6,n7,n8,n9,n10,n11,n12,n13,n14,n15,n16,n17,n18,n19,n20,n21,n22,n23,n24,n25,n26,n27,n28,n29,n30]
  exact⟨_,_,rfl,rfl⟩
def endsB (op:Int):Bool:=decide (27≤op∧op≤30)
theorem ends_runs (op:Int):Runs Try.prog tab 1 56 [int op] (bool (endsB op)):=by
 refine Runs.by (rs:=[.tmp 2]) (N:=17) rfl Try.func56 rfl rfl (by simp) fun k hk=>?_
 by_cases h1:op=27
 ·subst h1;exact⟨_,_,rfl,rfl⟩
 by_cases h2:op=28
 ·subst h2;exact⟨_,_,rfl,rfl⟩
 by_cases h3:op=29
 ·subst h3;exact⟨_,_,rfl,rfl⟩
 by_cases h4:op=30
 ·subst h4;exact⟨_,_,rfl,rfl⟩
 rw[show endsB op=false from decide_eq_false (by omega)]
 simp +decide -implicitDefEqProofs only[k56,go_sem,decide_eq_false h1,decide_eq_false h2,decide_eq_false h3,decide_eq_false h4]
 exact⟨_,_,rfl,rfl⟩
theorem rends_runs (op:Int):Runs Try.prog tab 1 57 [int op] (bool (endsB op)):=by
 refine Runs.by (rs:=[.tmp 2]) (N:=9) rfl Try.func57 rfl rfl (by simp) fun k hk=>?_
 by_cases h1:op≥27
 ·by_cases h2:op≤30
  ·rw[show endsB op=true from decide_eq_true (by omega)]
   simp +decide -implicitDefEqProofs only[k57,go_sem,decide_eq_true h1,decide_eq_true h2]
   exact⟨_,_,rfl,rfl⟩
  ·rw[show endsB op=false from decide_eq_false (by omega)]
   simp +decide -implicitDefEqProofs only[k57,go_sem,decide_eq_true h1,decide_eq_false h2]
   exact⟨_,_,rfl,rfl⟩
 ·rw[show endsB op=false from decide_eq_false (by omega)]
  simp +decide -implicitDefEqProofs only[k57,go_sem,decide_eq_false h1]
  exact⟨_,_,rfl,rfl⟩
def scalB (t:Int):Bool:=decide (t=1∨t=2)
theorem scalar_runs (t:Int):Runs Try.prog tab 1 108 [int t] (bool (scalB t)):=by
 refine Runs.by (rs:=[.tmp 2]) (N:=9) rfl Try.func108 rfl rfl (by simp) fun k hk=>?_
 by_cases h1:t=1
 ·subst h1;exact⟨_,_,rfl,rfl⟩
 by_cases h2:t=2
 ·subst h2;exact⟨_,_,rfl,rfl⟩
 rw[show scalB t=false from decide_eq_false (by omega)]
 simp +decide -implicitDefEqProofs only[k108,go_sem,decide_eq_false h1,decide_eq_false h2]
 exact⟨_,_,rfl,rfl⟩
end Go.Proofs.Ytkcimaibaicdcaa.Tk
namespace Go.Tm
section
variable {P:Program} {vals:FuncId→Bool} {call:CallF} {n:Nat} {A B X Y Z:K} {s t:St}
theorem seq_n (h:exec P vals call n A s=some (.normal,t)):exec P vals call n (.seq A B) s=exec P vals call n B t:=by
 simp only[exec,h,andThen]
theorem seq_seq:exec P vals call n (.seq (.seq A X) B) s=exec P vals call n (.seq A (.seq X B)) s:=by
 simp only[exec]
 rcases exec P vals call n A s with _|⟨c,u⟩
 ·rfl
 ·cases c<;>rfl
theorem seq_cond {c:Operand}{q:Bool}(h:ev s.env c=some (bool q)):exec P vals call n (.seq (.cond c X Y) B) s=if q=true then exec P vals call n (.seq X B) s else exec P vals call n (.seq Y B) s:=by
 simp only[exec,h,Option.bind_some,boolOf]
 cases q<;>rfl
theorem seq_alt {r:Option (Ctl×St)}{mk:List (Nat×C)→St}(h1:∃e,exec P vals call n A s=some (.normal,mk e))(h2:∀e,exec P vals call n B (mk e)=r):exec P vals call n (.seq A B) s=r:=by
 obtain⟨e,h⟩:=h1
 rw[seq_n h]
 exact h2 e
theorem seq_skip:exec P vals call n (.seq .skip B) s=exec P vals call n B s:=rfl
theorem fin_two {h:Heap}{q:Bool}{r:Option (Ctl×St)}(e:r=some (.ret,⟨[(2,bool q)],h⟩)):∃c h',fin P [.tmp 2] r=some (c,h')∧view true h' depth c=some (bool q):=by
 subst e
 exact⟨_,_,rfl,rfl⟩
end
end Go.Tm
namespace Go.Proofs.Ytkcimaibaicdcaa.Tk
open Go.Tm Go.Tm.Tab
structure Cd where
 o1:Bool
 o2:Bool
 f1:Bool
 f2:Bool
 f3:Bool
 f4:Bool
 sy:Bool
 nu:Bool
 e26:Bool
 e29:Bool
 e25:Bool
 e22:Bool
 e23:Bool
 e18:Bool
 e21:Bool
 en:Bool
 ab:Bool
 a1:Bool
 al1:Bool
 al6:Bool
 al5:Bool
 n1:Bool
 n16:Bool
 s0:Bool
 n0:Bool
 tl:Bool
 tg:Bool
 t0:Bool
 to0:Bool
 to1:Bool
def cdOf (x:Ins):Cd where
 o1:=decide (x.op<1)
 o2:=decide (x.op>30)
 f1:=decide ((markOf x.op).args<0)
 f2:=decide ((x.args.length:Int)=(markOf x.op).args)
 f3:=decide ((markOf x.op).into<0)
 f4:=decide ((x.into.length:Int)=(markOf x.op).into)
 sy:=(markOf x.op).sym
 nu:=(markOf x.op).num
 e26:=decide (x.op=26)
 e29:=decide (x.op=29)
 e25:=decide (x.op=25)
 e22:=decide (x.op=22)
 e23:=decide (x.op=23)
 e18:=decide (x.op=18)
 e21:=decide (x.op=21)
 en:=endsB x.op
 ab:=decide ((x.args.length:Int)=x.into.length)
 a1:=decide ((x.args.length:Int)≥1)
 al1:=decide ((x.args.length:Int)≤1)
 al6:=decide ((x.args.length:Int)≤6)
 al5:=decide ((x.args.length:Int)≤5)
 n1:=decide (x.num≥1)
 n16:=decide (x.num≤16)
 s0:=decide (x.sym=0)
 n0:=decide (x.num=0)
 tl:=decide (x.type<0)
 tg:=decide (x.type>4)
 t0:=decide (x.type=0)
 to0:=decide (x.to=0)
 to1:=decide (x.to≥1)
def fitsS (c:Cd):Bool:=
 if c.e26=true then c.ab&&c.a1 else if c.e29=true then((c.f1||c.f2)&&(c.f3||c.f4))&&c.al1 else if c.e25=true then(((c.f1||c.f2)&&(c.f3||c.f4))&&c.a1)&&c.al6
 else if (c.e22||c.e23)=true then((c.f1||c.f2)&&(c.f3||c.f4))&&c.al5 else if c.e18=true then(((c.f1||c.f2)&&(c.f3||c.f4))&&c.n1)&&c.n16 else(c.f1||c.f2)&&(c.f3||c.f4)
def shapedS (c:Cd):Bool:=
 if (c.o1||c.o2)=true then false else
 if ((((!fitsS c||(!c.sy&&!c.s0))||(!c.nu&&!c.n0))||c.tl)||c.tg)=true then false else
 if (!((c.e22||c.e23)||c.e25)&&(!decide ((c.e21||c.en)=c.t0)))=true then false else
 if c.t0=true then c.to0 else c.to1
theorem shaped_runs (x:Ins)(hl:x.args.length<2^50∧x.into.length<2^50):Runs Try.prog tab 10 109 [.agg (encIns x)] (bool (shapedS (cdOf x))):=by
 refine Runs.by (rs:=[.tmp 2]) (N:=169) rfl Try.func109 rfl rfl (by simp) fun k hk=>?_
 have hM:∀h,callAt Try.prog tab k 51 [int x.op] h=some (markC (markOf x.op),h):=fun h=>mark51_runs x.op k (by omega) _ h (by simp only[mapC_cons,mapC_nil,depth,view_int,Option.bind_some])
 have hE:∀h,callAt Try.prog tab k 56 [int x.op] h=some (bool (endsB x.op),h):=fun h=>ends_runs x.op k (by omega) _ h (by simp only[mapC_cons,mapC_nil,depth,view_int,Option.bind_some])
 obtain⟨c,hc⟩:∃c,cdOf x=c:=⟨_,rfl⟩
 have q1:decide (x.op<1)=c.o1:=by rw[←hc];rfl
 have q2:decide (x.op>30)=c.o2:=by rw[←hc];rfl
 have q3:decide ((markOf x.op).args<0)=c.f1:=by rw[←hc];rfl
 have q4:decide ((x.args.length:Int)=(markOf x.op).args)=c.f2:=by rw[←hc];rfl
 have q5:decide ((markOf x.op).into<0)=c.f3:=by rw[←hc];rfl
 have q6:decide ((x.into.length:Int)=(markOf x.op).into)=c.f4:=by rw[←hc];rfl
 have q7:(markOf x.op).sym=c.sy:=by rw[←hc];rfl
 have q8:(markOf x.op).num=c.nu:=by rw[←hc];rfl
 have q9:decide (x.op=26)=c.e26:=by rw[←hc];rfl
 have qa:decide (x.op=29)=c.e29:=by rw[←hc];rfl
 have qb:decide (x.op=25)=c.e25:=by rw[←hc];rfl
 have qc:decide (x.op=22)=c.e22:=by rw[←hc];rfl
 have qd:decide (x.op=23)=c.e23:=by rw[←hc];rfl
 have qe:decide (x.op=18)=c.e18:=by rw[←hc];rfl
 have qf:decide (x.op=21)=c.e21:=by rw[←hc];rfl
 have qg:endsB x.op=c.en:=by rw[←hc];rfl
 have qh:decide ((x.args.length:Int)=x.into.length)=c.ab:=by rw[←hc];rfl
 have qi:decide ((x.args.length:Int)≥1)=c.a1:=by rw[←hc];rfl
 have qj:decide ((x.args.length:Int)≤1)=c.al1:=by rw[←hc];rfl
 have qk:decide ((x.args.length:Int)≤6)=c.al6:=by rw[←hc];rfl
 have ql:decide ((x.args.length:Int)≤5)=c.al5:=by rw[←hc];rfl
 have qm:decide (x.num≥1)=c.n1:=by rw[←hc];rfl
 have qn:decide (x.num≤16)=c.n16:=by rw[←hc];rfl
 have qo:decide (x.sym=0)=c.s0:=by rw[←hc];rfl
 have qp:decide (x.num=0)=c.n0:=by rw[←hc];rfl
 have qq:decide (x.type<0)=c.tl:=by rw[←hc];rfl
 have qr:decide (x.type>4)=c.tg:=by rw[←hc];rfl
 have qs:decide (x.type=0)=c.t0:=by rw[←hc];rfl
 have qt:decide (x.to=0)=c.to0:=by rw[←hc];rfl
 have qu:decide (x.to≥1)=c.to1:=by rw[←hc];rfl
 rw[qg] at hE
 rw[hc]
 obtain⟨o1,o2,f1,f2,f3,f4,sy,nu,e26,e29,e25,e22,e23,e18,e21,en,ab,a1,al1,al6,al5,n1,n16,s0,n0,tl,tg,t0,to0,to1⟩:=c
 simp only at q1 q2 q3 q4 q5 q6 q7 q8 q9 qa qb qc qd qe qf qg qh qi qj qk ql qm qn qo qp qq qr qs qt qu hE
 clear hc qg
 generalize markOf x.op=m at hM q3 q4 q5 q6 q7 q8
 obtain⟨ma,mi,sy',nu'⟩:=m
 simp only at q3 q4 q5 q6 q7 q8
 subst q7 q8
 unfold markC at hM
 simp only at hM
 refine fin_two (h:=[.row 0 (encIns x)]) ?_
 unfold k109
 unfold encIns
 generalize hH:([.row 0 [int x.op,int x.type,int x.to,int x.sym,int x.num,ints x.args,ints x.into]]:Heap)=H
 have g0:H[0]?=some (.row 0 [int x.op,int x.type,int x.to,int x.sym,int x.num,ints x.args,ints x.into]):=by rw[←hH];rfl
 refine(seq_n (t:=⟨[(1,.op 0 0)],H⟩) (by rw[←hH];simp +decide -implicitDefEqProofs only[go_sem])).trans ?_
 refine seq_seq.trans ?_
 refine(seq_n (t:=⟨[(1,.op 0 0),(19,bool (o1||o2))],H⟩) (by cases o1<;>cases o2<;>simp +decide -implicitDefEqProofs only[go_sem,g0,q1,q2])).trans ?_
 refine(seq_cond (q:=(o1||o2)) rfl).trans ?_
 unfold shapedS
 simp only
 cases hq1:(o1||o2) with
 |true=>rw[if_pos rfl,if_pos rfl];rfl
 |false=>
  rw[if_neg (by decide),if_neg (by decide)]
  refine seq_skip.trans ?_
  refine(seq_n (t:=⟨[(1,.op 0 0),(3,int ma),(4,int mi),(5,bool sy'),(6,bool nu')],H⟩) (by simp +decide -implicitDefEqProofs only[go_sem,g0,hM,tupAt])).trans ?_
  refine(seq_n (t:=⟨[(1,.op 0 0),(3,int ma),(4,int mi),(5,bool sy'),(6,bool nu'),(7,int x.args.length),(8,int x.into.length)],H⟩) (by simp +decide -implicitDefEqProofs only[go_sem,g0])).trans ?_
  refine(seq_n (t:=⟨[(1,.op 0 0),(5,bool sy'),(6,bool nu'),(7,int x.args.length),(8,int x.into.length),(9,bool ((f1||f2)&&(f3||f4)))],H⟩) (by cases f1<;>cases f2<;>cases f3<;>cases f4<;>simp +decide -implicitDefEqProofs only[go_sem,q3,q4,q5,q6])).trans ?_
  refine seq_seq.trans ?_
  refine(seq_n (t:=⟨[(1,.op 0 0),(5,bool sy'),(6,bool nu'),(7,int x.args.length),(8,int x.into.length),(9,bool ((f1||f2)&&(f3||f4))),(51,int x.op)],H⟩) (by simp +decide -implicitDefEqProofs only[go_sem,g0])).trans ?_
  refine seq_alt (mk:=fun e=>⟨(1,.op 0 0)::(5,bool sy')::(6,bool nu')::(9,bool (fitsS ⟨o1,o2,f1,f2,f3,f4,sy',nu',e26,e29,e25,e22,e23,e18,e21,en,ab,a1,al1,al6,al5,n1,n16,s0,n0,tl,tg,t0,to0,to1⟩))::e,H⟩) ?_ fun e=>?_
  ·unfold fitsS
   simp only
   generalize ((f1||f2)&&(f3||f4))=q0
   cases e26 with
   |true=>
    cases ab<;>cases a1<;>exact⟨_,by simp +decide -implicitDefEqProofs only[go_sem,g0,q9,qa,qb,qc,qd,qe,qh,qi,qj,qk,ql,qm,qn];rfl⟩
   |false=>
    cases e29 with
    |true=>
     cases q0<;>cases al1<;>exact⟨_,by simp +decide -implicitDefEqProofs only[go_sem,g0,q9,qa,qb,qc,qd,qe,qh,qi,qj,qk,ql,qm,qn];rfl⟩
    |false=>
     cases e25 with
     |true=>
      cases q0<;>cases a1<;>cases al6<;>exact⟨_,by simp +decide -implicitDefEqProofs only[go_sem,g0,q9,qa,qb,qc,qd,qe,qh,qi,qj,qk,ql,qm,qn];rfl⟩
     |false=>
      cases e22 with
      |true=>
       cases q0<;>cases al5<;>exact⟨_,by simp +decide -implicitDefEqProofs only[go_sem,g0,q9,qa,qb,qc,qd,qe,qh,qi,qj,qk,ql,qm,qn];rfl⟩
      |false=>
       cases e23 with
       |true=>
        cases q0<;>cases al5<;>exact⟨_,by simp +decide -implicitDefEqProofs only[go_sem,g0,q9,qa,qb,qc,qd,qe,qh,qi,qj,qk,ql,qm,qn];rfl⟩
       |false=>
        cases e18 with
        |true=>
         cases q0<;>cases n1<;>cases n16<;>exact⟨_,by simp +decide -implicitDefEqProofs only[go_sem,g0,q9,qa,qb,qc,qd,qe,qh,qi,qj,qk,ql,qm,qn];rfl⟩
        |false=>
         cases q0<;>exact⟨_,by simp +decide -implicitDefEqProofs only[go_sem,g0,q9,qa,qb,qc,qd,qe,qh,qi,qj,qk,ql,qm,qn];rfl⟩
  ·generalize fitsS ⟨o1,o2,f1,f2,f3,f4,sy',nu',e26,e29,e25,e22,e23,e18,e21,en,ab,a1,al1,al6,al5,n1,n16,s0,n0,tl,tg,t0,to0,to1⟩=ff
   refine seq_seq.trans ?_
   refine(seq_n (t:=⟨[(1,.op 0 0),(129,bool ((((!ff||(!sy'&&!s0))||(!nu'&&!n0))||tl)||tg))],H⟩) (by cases ff<;>cases sy'<;>cases s0<;>cases nu'<;>cases n0<;>cases tl<;>simp +decide -implicitDefEqProofs only[go_sem,g0,qo,qp,qq,qr]<;>rfl)).trans ?_
   refine(seq_cond (q:=((((!ff||(!sy'&&!s0))||(!nu'&&!n0))||tl)||tg)) rfl).trans ?_
   cases hq2:((((!ff||(!sy'&&!s0))||(!nu'&&!n0))||tl)||tg) with
   |true=>rw[if_pos rfl,if_pos rfl];rfl
   |false=>
    rw[if_neg (by decide),if_neg (by decide)]
    refine seq_skip.trans ?_
    refine(seq_n (t:=⟨[(1,.op 0 0),(10,bool (e21||en))],H⟩) (by cases e21<;>simp +decide -implicitDefEqProofs only[go_sem,g0,qf,hE]<;>rfl)).trans ?_
    refine(seq_n (t:=⟨[(1,.op 0 0),(10,bool (e21||en)),(11,bool ((e22||e23)||e25))],H⟩) (by cases e22<;>cases e23<;>simp +decide -implicitDefEqProofs only[go_sem,g0,qb,qc,qd]<;>rfl)).trans ?_
    refine seq_seq.trans ?_
    refine(seq_n (t:=⟨[(1,.op 0 0),(159,bool (!((e22||e23)||e25)&&(!decide ((e21||en)=t0))))],H⟩) (by generalize ((e22||e23)||e25)=u1;generalize (e21||en)=u2;cases u1<;>cases u2<;>cases t0<;>simp +decide -implicitDefEqProofs only[go_sem,g0,qs,bin_neqb]<;>rfl)).trans ?_
    refine(seq_cond (q:=(!((e22||e23)||e25)&&(!decide ((e21||en)=t0)))) rfl).trans ?_
    cases hq3:(!((e22||e23)||e25)&&(!decide ((e21||en)=t0))) with
    |true=>rw[if_pos rfl,if_pos rfl];rfl
    |false=>
     rw[if_neg (by decide),if_neg (by decide)]
     refine seq_skip.trans ?_
     refine seq_seq.trans ?_
     refine(seq_n (t:=⟨[(1,.op 0 0),(162,bool t0)],H⟩) (by simp +decide -implicitDefEqProofs only[go_sem,g0,qs])).trans ?_
     refine(seq_cond (q:=t0) rfl).trans ?_
     cases t0 with
     |true=>
      rw[if_pos rfl,if_pos rfl]
      simp +decide -implicitDefEqProofs only[go_sem,g0,qt]
     |false=>
      rw[if_neg (by decide),if_neg (by decide)]
      refine seq_skip.trans ?_
      simp +decide -implicitDefEqProofs only[go_sem,g0,qu]
end Go.Proofs.Ytkcimaibaicdcaa.Tk
namespace Go.Tm
theorem seq_dep {P:Program}{vals:FuncId→Bool}{call:CallF}{n:Nat}{A B:K}{s t:St}{r:Option (Ctl×St)}{bad:Bool}{mk:List (Nat×C)→St}(h1:bad=true→exec P vals call n A s=some (.ret,t))(h2:bad=false→∃e,exec P vals call n A s=some (.normal,mk e))
  (h3:bad=true→some (.ret,t)=r)(h4:bad=false→∀e,exec P vals call n B (mk e)=r):exec P vals call n (.seq A B) s=r:=by
 cases bad with
 |true=>rw[←h3 rfl];simp only[exec,h1 rfl,andThen]
 |false=>
  obtain⟨e,h⟩:=h2 rfl
  rw[seq_n h]
  exact h4 rfl e
end Go.Tm
namespace Go.Proofs.Ytkcimaibaicdcaa.Tk
open Go.Tm Go.Tm.Tab
def badS (c:Cd):Bool:=
 if c.e26=true then !c.a1||!c.ab else if c.e29=true then !c.al1 else if c.e25=true then !c.a1||!c.al6 else if (c.e22||c.e23)=true then !c.al5 else if c.e18=true then !c.n1||!c.n16 else false
def freeS (c:Cd):Bool:=if c.e26=true then false else if c.e29=true then false else if c.e25=true then true else c.e22||c.e23
def formS (c:Cd):Bool:=
 if (((c.o1||c.o2)||c.tl)||c.tg)=true then false else
 if ((((!c.f1&&!c.f2)||(!c.f3&&!c.f4))||(!c.sy&&!c.s0))||(!c.nu&&!c.n0))=true then false else
 if badS c=true then false else
 if (!freeS c&&(!decide ((c.e21||c.en)=c.t0)))=true then false else(c.t0&&c.to0)||(!c.t0&&c.to1)
theorem form_runs (x:Ins)(hl:x.args.length<2^50∧x.into.length<2^50):Runs Try.prog tab 10 103 [.agg (encIns x)] (bool (formS (cdOf x))):=by
 refine Runs.by (rs:=[.tmp 2]) (N:=150) rfl Try.func103 rfl rfl (by simp) fun k hk=>?_
 have hM:∀h,callAt Try.prog tab k 52 [int x.op] h=some (markC (markOf x.op),h):=fun h=>mark52_runs x.op k (by omega) _ h (by simp only[mapC_cons,mapC_nil,depth,view_int,Option.bind_some])
 have hE:∀h,callAt Try.prog tab k 57 [int x.op] h=some (bool (endsB x.op),h):=fun h=>rends_runs x.op k (by omega) _ h (by simp only[mapC_cons,mapC_nil,depth,view_int,Option.bind_some])
 obtain⟨c,hc⟩:∃c,cdOf x=c:=⟨_,rfl⟩
 have q1:decide (x.op<1)=c.o1:=by rw[←hc];rfl
 have q2:decide (x.op>30)=c.o2:=by rw[←hc];rfl
 have q3:decide ((markOf x.op).args<0)=c.f1:=by rw[←hc];rfl
 have q4:decide ((x.args.length:Int)=(markOf x.op).args)=c.f2:=by rw[←hc];rfl
 have q5:decide ((markOf x.op).into<0)=c.f3:=by rw[←hc];rfl
 have q6:decide ((x.into.length:Int)=(markOf x.op).into)=c.f4:=by rw[←hc];rfl
 have q7:(markOf x.op).sym=c.sy:=by rw[←hc];rfl
 have q8:(markOf x.op).num=c.nu:=by rw[←hc];rfl
 have q9:decide (x.op=26)=c.e26:=by rw[←hc];rfl
 have qa:decide (x.op=29)=c.e29:=by rw[←hc];rfl
 have qb:decide (x.op=25)=c.e25:=by rw[←hc];rfl
 have qc:decide (x.op=22)=c.e22:=by rw[←hc];rfl
 have qd:decide (x.op=23)=c.e23:=by rw[←hc];rfl
 have qe:decide (x.op=18)=c.e18:=by rw[←hc];rfl
 have qf:decide (x.op=21)=c.e21:=by rw[←hc];rfl
 have qg:endsB x.op=c.en:=by rw[←hc];rfl
 have qh:decide ((x.args.length:Int)=x.into.length)=c.ab:=by rw[←hc];rfl
 have qi:decide ((x.args.length:Int)≥1)=c.a1:=by rw[←hc];rfl
 have qj:decide ((x.args.length:Int)≤1)=c.al1:=by rw[←hc];rfl
 have qk:decide ((x.args.length:Int)≤6)=c.al6:=by rw[←hc];rfl
 have ql:decide ((x.args.length:Int)≤5)=c.al5:=by rw[←hc];rfl
 have qm:decide (x.num≥1)=c.n1:=by rw[←hc];rfl
 have qn:decide (x.num≤16)=c.n16:=by rw[←hc];rfl
 have qo:decide (x.sym=0)=c.s0:=by rw[←hc];rfl
 have qp:decide (x.num=0)=c.n0:=by rw[←hc];rfl
 have qq:decide (x.type<0)=c.tl:=by rw[←hc];rfl
 have qr:decide (x.type>4)=c.tg:=by rw[←hc];rfl
 have qs:decide (x.type=0)=c.t0:=by rw[←hc];rfl
 have qt:decide (x.to=0)=c.to0:=by rw[←hc];rfl
 have qu:decide (x.to≥1)=c.to1:=by rw[←hc];rfl
 rw[qg] at hE
 rw[hc]
 obtain⟨o1,o2,f1,f2,f3,f4,sy,nu,e26,e29,e25,e22,e23,e18,e21,en,ab,a1,al1,al6,al5,n1,n16,s0,n0,tl,tg,t0,to0,to1⟩:=c
 simp only at q1 q2 q3 q4 q5 q6 q7 q8 q9 qa qb qc qd qe qf qg qh qi qj qk ql qm qn qo qp qq qr qs qt qu hE
 clear hc qg
 generalize markOf x.op=m at hM q3 q4 q5 q6 q7 q8
 obtain⟨ma,mi,sy',nu'⟩:=m
 simp only at q3 q4 q5 q6 q7 q8
 subst q7 q8
 unfold markC at hM
 simp only at hM
 have neg:∀{p q:Prop} [Decidable p] [Decidable q] {b:Bool},decide p=b→(q↔¬p)→decide q= !b:=fun h e=>by rw[←h,←decide_not];exact decide_eq_decide.2 e
 have p1:decide (ma≥0)= !f1:=neg q3 (by omega)
 have p2:decide (mi≥0)= !f3:=neg q5 (by omega)
 have p3:decide ((x.args.length:Int)<1)= !a1:=neg qi (by omega)
 have p4:decide ((x.args.length:Int)>1)= !al1:=neg qj (by omega)
 have p5:decide ((x.args.length:Int)>6)= !al6:=neg qk (by omega)
 have p6:decide ((x.args.length:Int)>5)= !al5:=neg ql (by omega)
 have p7:decide (x.num<1)= !n1:=neg qm (by omega)
 have p8:decide (x.num>16)= !n16:=neg qn (by omega)
 have p9:decide ((x.into.length:Int)=x.args.length)=ab:=by rw[←qh];exact decide_eq_decide.2 (by omega)
 refine fin_two (h:=[.row 0 (encIns x)]) ?_
 unfold k103
 unfold encIns
 generalize hH:([.row 0 [int x.op,int x.type,int x.to,int x.sym,int x.num,ints x.args,ints x.into]]:Heap)=H
 have g0:H[0]?=some (.row 0 [int x.op,int x.type,int x.to,int x.sym,int x.num,ints x.args,ints x.into]):=by rw[←hH];rfl
 refine(seq_n (t:=⟨[(1,.op 0 0)],H⟩) (by rw[←hH];simp +decide -implicitDefEqProofs only[go_sem])).trans ?_
 refine seq_seq.trans ?_
 refine(seq_n (t:=⟨[(1,.op 0 0),(27,bool (((o1||o2)||tl)||tg))],H⟩) (by cases o1<;>cases o2<;>cases tl<;>simp +decide -implicitDefEqProofs only[go_sem,g0,q1,q2,qq,qr]<;>rfl)).trans ?_
 refine(seq_cond (q:=(((o1||o2)||tl)||tg)) rfl).trans ?_
 unfold formS
 simp only
 cases hq1:(((o1||o2)||tl)||tg) with
 |true=>rw[if_pos rfl,if_pos rfl];rfl
 |false=>
  rw[if_neg (by decide),if_neg (by decide)]
  refine seq_skip.trans ?_
  refine(seq_n (t:=⟨[(1,.op 0 0),(3,int ma),(4,int mi),(5,bool sy'),(6,bool nu')],H⟩) (by simp +decide -implicitDefEqProofs only[go_sem,g0,hM,tupAt])).trans ?_
  refine(seq_n (t:=⟨[(1,.op 0 0),(3,int ma),(4,int mi),(5,bool sy'),(6,bool nu'),(7,int x.args.length)],H⟩) (by simp +decide -implicitDefEqProofs only[go_sem,g0])).trans ?_
  refine seq_seq.trans ?_
  refine(seq_n (t:=⟨[(1,.op 0 0),(7,int x.args.length),(74,bool ((((!f1&&!f2)||(!f3&&!f4))||(!sy'&&!s0))||(!nu'&&!n0)))],H⟩) (by cases f1<;>cases f2<;>cases f3<;>cases f4<;>cases sy'<;>cases s0<;>cases nu'<;>simp +decide -implicitDefEqProofs only[go_sem,g0,p1,p2,q4,q6,qo,qp]<;>rfl)).trans ?_
  refine(seq_cond (q:=((((!f1&&!f2)||(!f3&&!f4))||(!sy'&&!s0))||(!nu'&&!n0))) rfl).trans ?_
  cases hq2:((((!f1&&!f2)||(!f3&&!f4))||(!sy'&&!s0))||(!nu'&&!n0)) with
  |true=>rw[if_pos rfl,if_pos rfl];rfl
  |false=>
   rw[if_neg (by decide),if_neg (by decide)]
   refine seq_skip.trans ?_
   refine(seq_n (t:=⟨[(1,.op 0 0),(7,int x.args.length),(8,bool false)],H⟩) (by simp +decide -implicitDefEqProofs only[go_sem])).trans ?_
   refine seq_seq.trans ?_
   refine(seq_n (t:=⟨[(1,.op 0 0),(7,int x.args.length),(8,bool false),(76,int x.op)],H⟩) (by simp +decide -implicitDefEqProofs only[go_sem,g0])).trans ?_
   refine seq_dep (t:=⟨[(2,bool false)],H⟩) (bad:=badS ⟨o1,o2,f1,f2,f3,f4,sy',nu',e26,e29,e25,e22,e23,e18,e21,en,ab,a1,al1,al6,al5,n1,n16,s0,n0,tl,tg,t0,to0,to1⟩) (mk:=fun e=>⟨(1,.op 0 0)::(8,bool (freeS ⟨o1,o2,f1,f2,f3,f4,sy',nu',e26,e29,e25,e22,e23,e18,e21,en,ab,a1,al1,al6,al5,n1,n16,s0,n0,tl,tg,t0,to0,to1⟩))::e,H⟩) ?_ ?_ (fun h=>by rw[h,if_pos rfl]) (fun h e=>?_)
   ·unfold badS
    simp only
    cases e26 with
    |true=>
     intro h
     cases a1<;>cases ab<;>first|(simp at h;done)|(simp +decide -implicitDefEqProofs only[go_sem,g0,q9,qa,qb,qc,qd,qe,p3,p4,p5,p6,p7,p8,p9,qh])|(simp +decide -implicitDefEqProofs only[go_sem,g0,q9,qa,qb,qc,qd,qe,p3,p4,p5,p6,p7,p8,p9,qh];rfl)
    |false=>
     cases e29 with
     |true=>
      intro h
      cases al1<;>first|(simp at h;done)|(simp +decide -implicitDefEqProofs only[go_sem,g0,q9,qa,qb,qc,qd,qe,p3,p4,p5,p6,p7,p8,p9,qh])|(simp +decide -implicitDefEqProofs only[go_sem,g0,q9,qa,qb,qc,qd,qe,p3,p4,p5,p6,p7,p8,p9,qh];rfl)
     |false=>
      cases e25 with
      |true=>
       intro h
       cases a1<;>cases al6<;>first|(simp at h;done)|(simp +decide -implicitDefEqProofs only[go_sem,g0,q9,qa,qb,qc,qd,qe,p3,p4,p5,p6,p7,p8,p9,qh])|(simp +decide -implicitDefEqProofs only[go_sem,g0,q9,qa,qb,qc,qd,qe,p3,p4,p5,p6,p7,p8,p9,qh];rfl)
      |false=>
       cases e22 with
       |true=>
        intro h
        cases al5<;>first|(simp at h;done)|(simp +decide -implicitDefEqProofs only[go_sem,g0,q9,qa,qb,qc,qd,qe,p3,p4,p5,p6,p7,p8,p9,qh])|(simp +decide -implicitDefEqProofs only[go_sem,g0,q9,qa,qb,qc,qd,qe,p3,p4,p5,p6,p7,p8,p9,qh];rfl)
       |false=>
        cases e23 with
        |true=>
         intro h
         cases al5<;>first|(simp at h;done)|(simp +decide -implicitDefEqProofs only[go_sem,g0,q9,qa,qb,qc,qd,qe,p3,p4,p5,p6,p7,p8,p9,qh])|(simp +decide -implicitDefEqProofs only[go_sem,g0,q9,qa,qb,qc,qd,qe,p3,p4,p5,p6,p7,p8,p9,qh];rfl)
        |false=>
         cases e18 with
         |true=>
          intro h
          cases n1<;>cases n16<;>first|(simp at h;done)|(simp +decide -implicitDefEqProofs only[go_sem,g0,q9,qa,qb,qc,qd,qe,p3,p4,p5,p6,p7,p8,p9,qh])|(simp +decide -implicitDefEqProofs only[go_sem,g0,q9,qa,qb,qc,qd,qe,p3,p4,p5,p6,p7,p8,p9,qh];rfl)
         |false=>
          intro h
          first|(simp at h;done)|(simp +decide -implicitDefEqProofs only[go_sem,g0,q9,qa,qb,qc,qd,qe,p3,p4,p5,p6,p7,p8,p9,qh])|(simp +decide -implicitDefEqProofs only[go_sem,g0,q9,qa,qb,qc,qd,qe,p3,p4,p5,p6,p7,p8,p9,qh];rfl)
   ·unfold badS freeS
    simp only
    cases e26 with
    |true=>
     intro h
     cases a1<;>cases ab<;>first|(simp at h;done)|exact⟨_,by simp +decide -implicitDefEqProofs only[go_sem,g0,q9,qa,qb,qc,qd,qe,p3,p4,p5,p6,p7,p8,p9,qh];rfl⟩
    |false=>
     cases e29 with
     |true=>
      intro h
      cases al1<;>first|(simp at h;done)|exact⟨_,by simp +decide -implicitDefEqProofs only[go_sem,g0,q9,qa,qb,qc,qd,qe,p3,p4,p5,p6,p7,p8,p9,qh];rfl⟩
     |false=>
      cases e25 with
      |true=>
       intro h
       cases a1<;>cases al6<;>first|(simp at h;done)|exact⟨_,by simp +decide -implicitDefEqProofs only[go_sem,g0,q9,qa,qb,qc,qd,qe,p3,p4,p5,p6,p7,p8,p9,qh];rfl⟩
      |false=>
       cases e22 with
       |true=>
        intro h
        cases al5<;>first|(simp at h;done)|exact⟨_,by simp +decide -implicitDefEqProofs only[go_sem,g0,q9,qa,qb,qc,qd,qe,p3,p4,p5,p6,p7,p8,p9,qh];rfl⟩
       |false=>
        cases e23 with
        |true=>
         intro h
         cases al5<;>first|(simp at h;done)|exact⟨_,by simp +decide -implicitDefEqProofs only[go_sem,g0,q9,qa,qb,qc,qd,qe,p3,p4,p5,p6,p7,p8,p9,qh];rfl⟩
        |false=>
         cases e18 with
         |true=>
          intro h
          cases n1<;>cases n16<;>first|(simp at h;done)|exact⟨_,by simp +decide -implicitDefEqProofs only[go_sem,g0,q9,qa,qb,qc,qd,qe,p3,p4,p5,p6,p7,p8,p9,qh];rfl⟩
         |false=>
          intro h
          first|(simp at h;done)|exact⟨_,by simp +decide -implicitDefEqProofs only[go_sem,g0,q9,qa,qb,qc,qd,qe,p3,p4,p5,p6,p7,p8,p9,qh];rfl⟩
   ·rw[h,if_neg (by decide)]
    generalize freeS ⟨o1,o2,f1,f2,f3,f4,sy',nu',e26,e29,e25,e22,e23,e18,e21,en,ab,a1,al1,al6,al5,n1,n16,s0,n0,tl,tg,t0,to0,to1⟩=ff
    refine(seq_n (t:=⟨[(1,.op 0 0),(8,bool ff),(9,bool (e21||en))],H⟩) (by cases e21<;>simp +decide -implicitDefEqProofs only[go_sem,g0,qf,hE]<;>rfl)).trans ?_
    refine seq_seq.trans ?_
    refine(seq_n (t:=⟨[(1,.op 0 0),(131,bool (!ff&&(!decide ((e21||en)=t0))))],H⟩) (by generalize (e21||en)=u2;cases ff<;>cases u2<;>cases t0<;>simp +decide -implicitDefEqProofs only[go_sem,g0,qs,bin_neqb]<;>rfl)).trans ?_
    refine(seq_cond (q:=(!ff&&(!decide ((e21||en)=t0)))) rfl).trans ?_
    cases hq3:(!ff&&(!decide ((e21||en)=t0))) with
    |true=>rw[if_pos rfl,if_pos rfl];rfl
    |false=>
     rw[if_neg (by decide),if_neg (by decide)]
     refine seq_skip.trans ?_
     cases t0<;>cases to0<;>simp +decide -implicitDefEqProofs only[go_sem,g0,qs,qt,qu]<;>rfl
theorem fits_bad (c:Cd)(h:c.e26=true→c.f1=true∧c.f3=true):(!fitsS c)=(((!c.f1&&!c.f2)||(!c.f3&&!c.f4))||badS c):=by
 have hF:((!c.f1&&!c.f2)||(!c.f3&&!c.f4))= !((c.f1||c.f2)&&(c.f3||c.f4)):=by rw[Bool.not_and,Bool.not_or,Bool.not_or]
 unfold fitsS badS
 rw[hF]
 have F1:c.e26=true→((c.f1||c.f2)&&(c.f3||c.f4))=true:=fun e=>by
  obtain⟨h1,h3⟩:=h e
  rw[h1,h3];rfl
 generalize ((c.f1||c.f2)&&(c.f3||c.f4))=F at F1
 generalize c.e26=e26 at F1
 generalize c.e29=e29
 generalize c.e25=e25
 generalize (c.e22||c.e23)=e22
 generalize c.e18=e18
 generalize c.ab=ab
 generalize c.a1=a1
 generalize c.al1=al1
 generalize c.al6=al6
 generalize c.al5=al5
 generalize c.n1=n1
 generalize c.n16=n16
 cases e26 with
 |true=>rw[F1 rfl];cases ab<;>cases a1<;>rfl
 |false=>
  cases e29 with
  |true=>cases F<;>cases al1<;>rfl
  |false=>
   cases e25 with
   |true=>cases F<;>cases a1<;>cases al6<;>rfl
   |false=>
    cases e22 with
    |true=>cases F<;>cases al5<;>rfl
    |false=>
     cases e18 with
     |true=>cases F<;>cases n1<;>cases n16<;>rfl
     |false=>cases F<;>rfl
theorem shaped_form (c:Cd)(h:c.e26=true→c.f1=true∧c.f3=true)(h2:c.e26=true∨c.e29=true→((c.e22||c.e23)||c.e25)=false):shapedS c=formS c:=by
 have hfree:freeS c=((c.e22||c.e23)||c.e25):=by
  unfold freeS
  generalize c.e26=e26 at h2
  generalize c.e29=e29 at h2
  generalize c.e25=e25 at h2
  generalize c.e22=e22 at h2
  generalize c.e23=e23 at h2
  cases e26 with
  |true=>rw[h2 (.inl rfl)];rfl
  |false=>
   cases e29 with
   |true=>rw[h2 (.inr rfl)];rfl
   |false=>cases e25<;>cases e22<;>cases e23<;>rfl
 unfold shapedS formS
 rw[fits_bad c h,hfree]
 generalize badS c=bad
 generalize ((!c.f1&&!c.f2)||(!c.f3&&!c.f4))=nf
 generalize (!c.sy&&!c.s0)=w1
 generalize (!c.nu&&!c.n0)=w2
 generalize ((c.e22||c.e23)||c.e25)=ei
 generalize (!decide ((c.e21||c.en)=c.t0))=di
 generalize (c.o1||c.o2)=oo
 generalize c.tl=tl
 generalize c.tg=tg
 generalize c.t0=t0
 generalize c.to0=x0
 generalize c.to1=x1
 cases oo with
 |true=>cases tl<;>cases tg<;>rfl
 |false=>
  cases tl with
  |true=>cases nf<;>cases bad<;>cases w1<;>cases w2<;>rfl
  |false=>
   cases tg with
   |true=>cases nf<;>cases bad<;>cases w1<;>cases w2<;>rfl
   |false=>
    cases nf<;>cases w1<;>cases w2<;>cases bad<;>try rfl
    cases ei<;>cases di<;>cases t0<;>cases x0<;>cases x1<;>rfl
def shapeB (x:Ins):Bool:=shapedS (cdOf x)
theorem cd_phi (x:Ins):(cdOf x).e26=true→(cdOf x).f1=true∧(cdOf x).f3=true:=fun h=>by
 have e:x.op=26:=of_decide_eq_true h
 unfold cdOf
 simp only[e]
 exact⟨rfl,rfl⟩
theorem cd_one (x:Ins):(cdOf x).e26=true∨(cdOf x).e29=true→(((cdOf x).e22||(cdOf x).e23)||(cdOf x).e25)=false:=fun h=>by
 rcases h with h|h
 ·have e:x.op=26:=of_decide_eq_true h
  unfold cdOf
  simp only[e]
  rfl
 ·have e:x.op=29:=of_decide_eq_true h
  unfold cdOf
  simp only[e]
  rfl
theorem wshaped_runs (x:Ins)(hl:x.args.length<2^50∧x.into.length<2^50):Runs Try.prog tab 10 109 [.agg (encIns x)] (bool (shapeB x)):=shaped_runs x hl
theorem rform_runs (x:Ins)(hl:x.args.length<2^50∧x.into.length<2^50):Runs Try.prog tab 10 103 [.agg (encIns x)] (bool (shapeB x)):=by
 have:=form_runs x hl
 rw[←shaped_form _ (cd_phi x) (cd_one x)] at this
 exact this
end Go.Proofs.Ytkcimaibaicdcaa.Tk
namespace Go.Tm
def byteAt (s:ByteArray)(i:Int):Int:=((s[i.toNat]?).map fun b=>(b.toNat:Int)).getD 0
theorem pure_under {P:Program}{t:TypeId}{d:TypeDesc}(hu:P.underlying t=some d)(f:TypeDesc→Sem Value):pureRun P (underlying t >>= f)=pureRun P (f d):=by
 have e:pureRun P (underlying t >>= f)=pureRun P ((match P.underlying t with|some d=>pure d|none=>stuck "no such type") >>= f):=rfl
 rw[e,hu]
 rfl
theorem idx_str {P:Program}{t:TypeId}(hu:P.underlying t=some .string){s:ByteArray}{i:Int}(h:0≤i∧i<(s.size:Int)):indexC P t (str s) (int i)=some (.v (.int .u8 (byteAt s i))):=by
 have hlt:i.toNat<s.size:=by omega
 have hb:s[i.toNat]?=some s[i.toNat]:=by simp[hlt]
 unfold byteAt
 rw[hb]
 have e:pureRun P (Instr.index t (.string s) (.int .i64 i))=some (.int .u8 (s[i.toNat].toNat:Int)):=by
  have e2:Instr.index t (.string s) (.int .i64 i)=underlying t >>= fun d=>(match d,Value.string s with
   | .array len elem,.agg cs=>if 0≤i∧i<len then(do part elem cs (i.toNat*(←sizeOf elem))) else boundsPanic .i64 i len .index
   | .string,.string s=>match (if 0≤i then s[i.toNat]? else none) with
    |some b=>pure (.int .u8 b.toNat)
    |none=>boundsPanic .i64 i s.size .index
   |_,_=>stuck "Index: array or string expected"):=rfl
  rw[e2,pure_under hu]
  simp only[if_pos h.1,hb]
  rfl
 simp only[indexC,intOf,Option.bind_eq_bind,Option.bind_some,e]
 rfl
section
variable {P:Program} {t:TypeId} {x y:Operand} {a b:Int}
theorem bin_geq8:binC P .geq t x y (.v (.int .u8 a)) (.v (.int .u8 b))=some (.v (.bool (decide (a≥b)))):=rfl
theorem bin_leq8:binC P .leq t x y (.v (.int .u8 a)) (.v (.int .u8 b))=some (.v (.bool (decide (a≤b)))):=rfl
theorem bin_lss8:binC P .lss t x y (.v (.int .u8 a)) (.v (.int .u8 b))=some (.v (.bool (decide (a<b)))):=rfl
theorem bin_gtr8:binC P .gtr t x y (.v (.int .u8 a)) (.v (.int .u8 b))=some (.v (.bool (decide (a>b)))):=rfl
theorem bin_neq8:binC P .neq t x y (.v (.int .u8 a)) (.v (.int .u8 b))=some (.v (.bool (!decide (a=b)))):=rfl
end
end Go.Tm
namespace Go.Proofs.Ytkcimaibaicdcaa.Tk
open Go.Tm Go.Tm.Tab
def badB (s:ByteArray)(k:Nat):Bool:= !(decide (byteAt s k≥97)&&decide (byteAt s k≤122))&&(decide ((k:Int)=0)||(!decide (byteAt s k=95)&&(decide (byteAt s k<48)||decide (byteAt s k>57))))
theorem name_loop {vals:FuncId→Bool}{call:CallF}{n:Nat}(s:ByteArray)(hx:s.size<2^30):∀(d i m:Nat),i+d=s.size→d<m→
  Tm.Loop Try.prog vals call n [0,15,16] k54b0 m ⟨[(0,str s),(15,int s.size),(16,int i)],[]⟩=some (if (List.range' i d).any (badB s)=true then(.ret,⟨[(2,bool false)],[]⟩) else(.exit 0,⟨[(0,str s),(15,int s.size),(16,int s.size),(17,bool false)],[]⟩))
 |0,i,m,hi,hm=>by
  obtain⟨m,rfl⟩:∃p,m=p+1:=⟨m-1,by omega⟩
  obtain rfl:i=s.size:=by omega
  rw[Tm.Loop_succ]
  simp -implicitDefEqProofs only[k54b0,go_sem,Int.lt_irrefl,decide_false]
  rfl
 |d+1,i,m,hi,hm=>by
  obtain⟨m,rfl⟩:∃p,m=p+1:=⟨m-1,by omega⟩
  have ih:=name_loop (vals:=vals) (call:=call) (n:=n) s hx d (i+1) m (by omega) (by omega)
  rw[Tm.Loop_succ,List.range'_succ,List.any_cons]
  generalize Tm.Loop Try.prog vals call n [0,15,16] k54b0 m=L at ih⊢
  have e1:decide ((i:Int)<s.size)=true:=by simp;omega
  have e3:=wrap_next (n:=s.size) (i:=i) (by omega) (by omega)
  have hb:=idx_str (P:=Try.prog) (t:=9) (by kernel_rfl) (s:=s) (i:=i) (by omega)
  have hbad:badB s i=(!(decide (byteAt s i≥97)&&decide (byteAt s i≤122))&&(decide ((i:Int)=0)||(!decide (byteAt s i=95)&&(decide (byteAt s i<48)||decide (byteAt s i>57))))):=rfl
  rw[hbad]
  generalize byteAt s i=b at hb
  obtain⟨l1,h1⟩:∃q,decide (b≥97)=q:=⟨_,rfl⟩
  obtain⟨l2,h2⟩:∃q,decide (b≤122)=q:=⟨_,rfl⟩
  obtain⟨z,h3⟩:∃q,decide ((i:Int)=0)=q:=⟨_,rfl⟩
  obtain⟨u,h4⟩:∃q,decide (b=95)=q:=⟨_,rfl⟩
  obtain⟨d1,h5⟩:∃q,decide (b<48)=q:=⟨_,rfl⟩
  obtain⟨d2,h6⟩:∃q,decide (b>57)=q:=⟨_,rfl⟩
  rw[h1,h2,h3,h4,h5,h6]
  cases l1 with
  |false=>
   cases z with
   |true=>
    simp only[Bool.and_false,Bool.false_and,Bool.and_true,Bool.true_and,Bool.not_true,Bool.not_false,Bool.or_true,Bool.true_or,Bool.false_or,Bool.or_false,if_true]
    simp +decide -implicitDefEqProofs only[k54b0,go_sem,bin_geq8,bin_leq8,bin_lss8,bin_gtr8,bin_neq8,e1,e3,hb,h1,h2,h3,h4,h5,h6]
   |false=>
    cases u with
    |true=>
     simp only[Bool.and_false,Bool.false_and,Bool.and_true,Bool.true_and,Bool.not_true,Bool.not_false,Bool.or_true,Bool.true_or,Bool.false_or,Bool.or_false,if_true]
     simp +decide -implicitDefEqProofs only[k54b0,go_sem,bin_geq8,bin_leq8,bin_lss8,bin_gtr8,bin_neq8,e1,e3,hb,h1,h2,h3,h4,h5,h6]
     exact ih
    |false=>
     cases d1 with
     |true=>
      simp only[Bool.and_false,Bool.false_and,Bool.and_true,Bool.true_and,Bool.not_true,Bool.not_false,Bool.or_true,Bool.true_or,Bool.false_or,Bool.or_false,if_true]
      simp +decide -implicitDefEqProofs only[k54b0,go_sem,bin_geq8,bin_leq8,bin_lss8,bin_gtr8,bin_neq8,e1,e3,hb,h1,h2,h3,h4,h5,h6]
     |false=>
      cases d2 with
      |true=>
       simp only[Bool.and_false,Bool.false_and,Bool.and_true,Bool.true_and,Bool.not_true,Bool.not_false,Bool.or_true,Bool.true_or,Bool.false_or,Bool.or_false,if_true]
       simp +decide -implicitDefEqProofs only[k54b0,go_sem,bin_geq8,bin_leq8,bin_lss8,bin_gtr8,bin_neq8,e1,e3,hb,h1,h2,h3,h4,h5,h6]
      |false=>
       simp only[Bool.and_false,Bool.false_and,Bool.and_true,Bool.true_and,Bool.not_true,Bool.not_false,Bool.or_true,Bool.true_or,Bool.false_or,Bool.or_false,if_true]
       simp +decide -implicitDefEqProofs only[k54b0,go_sem,bin_geq8,bin_leq8,bin_lss8,bin_gtr8,bin_neq8,e1,e3,hb,h1,h2,h3,h4,h5,h6]
       exact ih
  |true=>
   cases l2 with
   |false=>
    cases z with
    |true=>
     simp only[Bool.and_false,Bool.false_and,Bool.and_true,Bool.true_and,Bool.not_true,Bool.not_false,Bool.or_true,Bool.true_or,Bool.false_or,Bool.or_false,if_true]
     simp +decide -implicitDefEqProofs only[k54b0,go_sem,bin_geq8,bin_leq8,bin_lss8,bin_gtr8,bin_neq8,e1,e3,hb,h1,h2,h3,h4,h5,h6]
    |false=>
     cases u with
     |true=>
      simp only[Bool.and_false,Bool.false_and,Bool.and_true,Bool.true_and,Bool.not_true,Bool.not_false,Bool.or_true,Bool.true_or,Bool.false_or,Bool.or_false,if_true]
      simp +decide -implicitDefEqProofs only[k54b0,go_sem,bin_geq8,bin_leq8,bin_lss8,bin_gtr8,bin_neq8,e1,e3,hb,h1,h2,h3,h4,h5,h6]
      exact ih
     |false=>
      cases d1 with
      |true=>
       simp only[Bool.and_false,Bool.false_and,Bool.and_true,Bool.true_and,Bool.not_true,Bool.not_false,Bool.or_true,Bool.true_or,Bool.false_or,Bool.or_false,if_true]
       simp +decide -implicitDefEqProofs only[k54b0,go_sem,bin_geq8,bin_leq8,bin_lss8,bin_gtr8,bin_neq8,e1,e3,hb,h1,h2,h3,h4,h5,h6]
      |false=>
       cases d2 with
       |true=>
        simp only[Bool.and_false,Bool.false_and,Bool.and_true,Bool.true_and,Bool.not_true,Bool.not_false,Bool.or_true,Bool.true_or,Bool.false_or,Bool.or_false,if_true]
        simp +decide -implicitDefEqProofs only[k54b0,go_sem,bin_geq8,bin_leq8,bin_lss8,bin_gtr8,bin_neq8,e1,e3,hb,h1,h2,h3,h4,h5,h6]
       |false=>
        simp only[Bool.and_false,Bool.false_and,Bool.and_true,Bool.true_and,Bool.not_true,Bool.not_false,Bool.or_true,Bool.true_or,Bool.false_or,Bool.or_false,if_true]
        simp +decide -implicitDefEqProofs only[k54b0,go_sem,bin_geq8,bin_leq8,bin_lss8,bin_gtr8,bin_neq8,e1,e3,hb,h1,h2,h3,h4,h5,h6]
        exact ih
   |true=>
    simp only[Bool.and_false,Bool.false_and,Bool.and_true,Bool.true_and,Bool.not_true,Bool.not_false,Bool.or_true,Bool.true_or,Bool.false_or,Bool.or_false,if_true]
    simp +decide -implicitDefEqProofs only[k54b0,go_sem,bin_geq8,bin_leq8,bin_lss8,bin_gtr8,bin_neq8,e1,e3,hb,h1,h2,h3,h4,h5,h6]
    exact ih
theorem badB_zero {s:ByteArray}(h:(decide (byteAt s 0≥97)&&decide (byteAt s 0≤122))=false)(hs:0<s.size):(List.range' 0 s.size).any (badB s)=true:=by
 obtain⟨k,hk⟩:∃k,s.size=k+1:=⟨s.size-1,by omega⟩
 rw[hk,List.range'_succ,List.any_cons]
 have:badB s 0=true:=by
  unfold badB
  rw[show((0:Nat):Int)=0 from rfl,h];rfl
 rw[this,Bool.true_or]
def nameB (s:ByteArray):Bool:=(decide ((s.size:Int)≥1)&&decide ((s.size:Int)≤12))&&!(List.range' 0 s.size).any (badB s)
theorem name_runs (s:ByteArray):Runs Try.prog tab 20 54 [str s] (bool (nameB s)):=by
 refine Runs.by (rs:=[.tmp 2]) (N:=47) rfl Try.func54 rfl rfl (by simp) fun k hk=>?_
 unfold nameB
 by_cases c1:(s.size:Int)<1
 ·rw[decide_eq_false (show ¬(s.size:Int)≥1 by omega)]
  simp +decide -implicitDefEqProofs only[k54,go_sem,decide_eq_true c1]
  exact⟨_,_,rfl,rfl⟩
 by_cases c2:(s.size:Int)>12
 ·rw[decide_eq_false (show ¬(s.size:Int)≤12 by omega),Bool.and_false]
  simp +decide -implicitDefEqProofs only[k54,go_sem,decide_eq_false c1,decide_eq_true c2]
  exact⟨_,_,rfl,rfl⟩
 rw[decide_eq_true (show(s.size:Int)≥1 by omega),decide_eq_true (show(s.size:Int)≤12 by omega)]
 have L:=name_loop (vals:=valsOf tab) (call:=callAt Try.prog tab k) (n:=k) s (by omega) s.size 0 k (by omega) (by omega)
 rw[show((0:Nat):Int)=0 from rfl] at L
 cases hb:(List.range' 0 s.size).any (badB s) with
 |true=>
  rw[hb,if_pos rfl] at L
  simp +decide -implicitDefEqProofs only[k54,go_sem,decide_eq_false c1,decide_eq_false c2,L]
  exact⟨_,_,rfl,rfl⟩
 |false=>
  rw[hb,if_neg (by decide)] at L
  simp +decide -implicitDefEqProofs only[k54,go_sem,decide_eq_false c1,decide_eq_false c2,L]
  exact⟨_,_,rfl,rfl⟩
theorem rname_loop {vals:FuncId→Bool}{call:CallF}{n:Nat}(s:ByteArray)(hx:s.size<2^30)(h0:(decide (byteAt s 0≥97)&&decide (byteAt s 0≤122))=true):∀(d i m:Nat),i+d=s.size→d<m→
  Tm.Loop Try.prog vals call n [0,3] k55b0 m ⟨[(0,str s),(3,int i)],[]⟩=some (if (List.range' i d).any (badB s)=true then(.ret,⟨[(2,bool false)],[]⟩) else(.exit 0,⟨[(0,str s),(3,int s.size),(26,bool false)],[]⟩))
 |0,i,m,hi,hm=>by
  obtain⟨m,rfl⟩:∃p,m=p+1:=⟨m-1,by omega⟩
  obtain rfl:i=s.size:=by omega
  rw[Tm.Loop_succ]
  simp -implicitDefEqProofs only[k55b0,go_sem,Int.lt_irrefl,decide_false]
  rfl
 |d+1,i,m,hi,hm=>by
  obtain⟨m,rfl⟩:∃p,m=p+1:=⟨m-1,by omega⟩
  have ih:=rname_loop (vals:=vals) (call:=call) (n:=n) s hx h0 d (i+1) m (by omega) (by omega)
  rw[Tm.Loop_succ,List.range'_succ,List.any_cons]
  generalize Tm.Loop Try.prog vals call n [0,3] k55b0 m=L at ih⊢
  have e1:decide ((i:Int)<s.size)=true:=by simp;omega
  have e3:=wrap_next (n:=s.size) (i:=i) (by omega) (by omega)
  have hb:=idx_str (P:=Try.prog) (t:=9) (by kernel_rfl) (s:=s) (i:=i) (by omega)
  have hbad:badB s i=(!(decide (byteAt s i≥97)&&decide (byteAt s i≤122))&&(decide ((i:Int)=0)||(!decide (byteAt s i=95)&&(decide (byteAt s i<48)||decide (byteAt s i>57))))):=rfl
  have hz0:(decide (byteAt s i≥97)&&decide (byteAt s i≤122))=false→decide ((i:Int)=0)=false:=fun h=>decide_eq_false fun e=>by rw[e,h0] at h;cases h
  rw[hbad]
  generalize byteAt s i=b at hb hz0
  obtain⟨l1,h1⟩:∃q,decide (b≥97)=q:=⟨_,rfl⟩
  obtain⟨l2,h2⟩:∃q,decide (b≤122)=q:=⟨_,rfl⟩
  obtain⟨z,h3⟩:∃q,decide ((i:Int)=0)=q:=⟨_,rfl⟩
  obtain⟨u,h4⟩:∃q,decide (b=95)=q:=⟨_,rfl⟩
  obtain⟨d1,h5⟩:∃q,decide (b<48)=q:=⟨_,rfl⟩
  obtain⟨d2,h6⟩:∃q,decide (b>57)=q:=⟨_,rfl⟩
  rw[h1,h2,h3,h4,h5,h6]
  have hz:(l1&&l2)=false→z=false:=fun h=>by rw[←h3];exact hz0 (by rw[h1,h2];exact h)
  have p1:decide (b<97)= !l1:=by rw[←h1,←decide_not];exact decide_eq_decide.2 (by omega)
  have p2:decide (b>122)= !l2:=by rw[←h2,←decide_not];exact decide_eq_decide.2 (by omega)
  cases l1 with
  |false=>
   obtain rfl:z=false:=hz rfl
   cases d1 with
   |true=>
    cases u with
    |true=>
     simp only[Bool.and_false,Bool.false_and,Bool.and_true,Bool.true_and,Bool.not_true,Bool.not_false,Bool.or_true,Bool.true_or,Bool.false_or,Bool.or_false,if_true]
     simp +decide -implicitDefEqProofs only[k55b0,go_sem,bin_geq8,bin_leq8,bin_lss8,bin_gtr8,bin_neq8,e1,e3,hb,p1,p2,h4,h5,h6]
     exact ih
    |false=>
     simp only[Bool.and_false,Bool.false_and,Bool.and_true,Bool.true_and,Bool.not_true,Bool.not_false,Bool.or_true,Bool.true_or,Bool.false_or,Bool.or_false,if_true]
     simp +decide -implicitDefEqProofs only[k55b0,go_sem,bin_geq8,bin_leq8,bin_lss8,bin_gtr8,bin_neq8,e1,e3,hb,p1,p2,h4,h5,h6]
   |false=>
    cases d2 with
    |true=>
     cases u with
     |true=>
      simp only[Bool.and_false,Bool.false_and,Bool.and_true,Bool.true_and,Bool.not_true,Bool.not_false,Bool.or_true,Bool.true_or,Bool.false_or,Bool.or_false,if_true]
      simp +decide -implicitDefEqProofs only[k55b0,go_sem,bin_geq8,bin_leq8,bin_lss8,bin_gtr8,bin_neq8,e1,e3,hb,p1,p2,h4,h5,h6]
      exact ih
     |false=>
      simp only[Bool.and_false,Bool.false_and,Bool.and_true,Bool.true_and,Bool.not_true,Bool.not_false,Bool.or_true,Bool.true_or,Bool.false_or,Bool.or_false,if_true]
      simp +decide -implicitDefEqProofs only[k55b0,go_sem,bin_geq8,bin_leq8,bin_lss8,bin_gtr8,bin_neq8,e1,e3,hb,p1,p2,h4,h5,h6]
    |false=>
     cases u with
     |true=>
      simp only[Bool.and_false,Bool.false_and,Bool.and_true,Bool.true_and,Bool.not_true,Bool.not_false,Bool.or_true,Bool.true_or,Bool.false_or,Bool.or_false,if_true]
      simp +decide -implicitDefEqProofs only[k55b0,go_sem,bin_geq8,bin_leq8,bin_lss8,bin_gtr8,bin_neq8,e1,e3,hb,p1,p2,h4,h5,h6]
      exact ih
     |false=>
      simp only[Bool.and_false,Bool.false_and,Bool.and_true,Bool.true_and,Bool.not_true,Bool.not_false,Bool.or_true,Bool.true_or,Bool.false_or,Bool.or_false,if_true]
      simp +decide -implicitDefEqProofs only[k55b0,go_sem,bin_geq8,bin_leq8,bin_lss8,bin_gtr8,bin_neq8,e1,e3,hb,p1,p2,h4,h5,h6]
      exact ih
  |true=>
   cases l2 with
   |false=>
    obtain rfl:z=false:=hz rfl
    cases d1 with
    |true=>
     cases u with
     |true=>
      simp only[Bool.and_false,Bool.false_and,Bool.and_true,Bool.true_and,Bool.not_true,Bool.not_false,Bool.or_true,Bool.true_or,Bool.false_or,Bool.or_false,if_true]
      simp +decide -implicitDefEqProofs only[k55b0,go_sem,bin_geq8,bin_leq8,bin_lss8,bin_gtr8,bin_neq8,e1,e3,hb,p1,p2,h4,h5,h6]
      exact ih
     |false=>
      simp only[Bool.and_false,Bool.false_and,Bool.and_true,Bool.true_and,Bool.not_true,Bool.not_false,Bool.or_true,Bool.true_or,Bool.false_or,Bool.or_false,if_true]
      simp +decide -implicitDefEqProofs only[k55b0,go_sem,bin_geq8,bin_leq8,bin_lss8,bin_gtr8,bin_neq8,e1,e3,hb,p1,p2,h4,h5,h6]
    |false=>
     cases d2 with
     |true=>
      cases u with
      |true=>
       simp only[Bool.and_false,Bool.false_and,Bool.and_true,Bool.true_and,Bool.not_true,Bool.not_false,Bool.or_true,Bool.true_or,Bool.false_or,Bool.or_false,if_true]
       simp +decide -implicitDefEqProofs only[k55b0,go_sem,bin_geq8,bin_leq8,bin_lss8,bin_gtr8,bin_neq8,e1,e3,hb,p1,p2,h4,h5,h6]
       exact ih
      |false=>
       simp only[Bool.and_false,Bool.false_and,Bool.and_true,Bool.true_and,Bool.not_true,Bool.not_false,Bool.or_true,Bool.true_or,Bool.false_or,Bool.or_false,if_true]
       simp +decide -implicitDefEqProofs only[k55b0,go_sem,bin_geq8,bin_leq8,bin_lss8,bin_gtr8,bin_neq8,e1,e3,hb,p1,p2,h4,h5,h6]
     |false=>
      cases u with
      |true=>
       simp only[Bool.and_false,Bool.false_and,Bool.and_true,Bool.true_and,Bool.not_true,Bool.not_false,Bool.or_true,Bool.true_or,Bool.false_or,Bool.or_false,if_true]
       simp +decide -implicitDefEqProofs only[k55b0,go_sem,bin_geq8,bin_leq8,bin_lss8,bin_gtr8,bin_neq8,e1,e3,hb,p1,p2,h4,h5,h6]
       exact ih
      |false=>
       simp only[Bool.and_false,Bool.false_and,Bool.and_true,Bool.true_and,Bool.not_true,Bool.not_false,Bool.or_true,Bool.true_or,Bool.false_or,Bool.or_false,if_true]
       simp +decide -implicitDefEqProofs only[k55b0,go_sem,bin_geq8,bin_leq8,bin_lss8,bin_gtr8,bin_neq8,e1,e3,hb,p1,p2,h4,h5,h6]
       exact ih
   |true=>
    simp only[Bool.and_false,Bool.false_and,Bool.and_true,Bool.true_and,Bool.not_true,Bool.not_false,Bool.or_true,Bool.true_or,Bool.false_or,Bool.or_false,if_true]
    simp +decide -implicitDefEqProofs only[k55b0,go_sem,bin_geq8,bin_leq8,bin_lss8,bin_gtr8,bin_neq8,e1,e3,hb,p1,p2,h4,h5,h6]
    exact ih
theorem rname_runs (s:ByteArray):Runs Try.prog tab 20 55 [str s] (bool (nameB s)):=by
 refine Runs.by (rs:=[.tmp 2]) (N:=50) rfl Try.func55 rfl rfl (by simp) fun k hk=>?_
 unfold nameB
 by_cases c1:(s.size:Int)<1
 ·rw[decide_eq_false (show ¬(s.size:Int)≥1 by omega)]
  simp +decide -implicitDefEqProofs only[k55,go_sem,decide_eq_true c1]
  exact⟨_,_,rfl,rfl⟩
 by_cases c2:(s.size:Int)>12
 ·rw[decide_eq_false (show ¬(s.size:Int)≤12 by omega),Bool.and_false]
  simp +decide -implicitDefEqProofs only[k55,go_sem,decide_eq_false c1,decide_eq_true c2]
  exact⟨_,_,rfl,rfl⟩
 rw[decide_eq_true (show(s.size:Int)≥1 by omega),decide_eq_true (show(s.size:Int)≤12 by omega)]
 have hb:=idx_str (P:=Try.prog) (t:=9) (by kernel_rfl) (s:=s) (i:=0) (by omega)
 by_cases c3:byteAt s 0<97
 ·rw[badB_zero (by rw[decide_eq_false (show ¬byteAt s 0≥97 by omega)];rfl) (by omega)]
  simp +decide -implicitDefEqProofs only[k55,go_sem,bin_lss8,bin_gtr8,decide_eq_false c1,decide_eq_false c2,hb,decide_eq_true c3]
  exact⟨_,_,rfl,rfl⟩
 by_cases c4:byteAt s 0>122
 ·rw[badB_zero (by rw[decide_eq_false (show ¬byteAt s 0≤122 by omega),Bool.and_false]) (by omega)]
  simp +decide -implicitDefEqProofs only[k55,go_sem,bin_lss8,bin_gtr8,decide_eq_false c1,decide_eq_false c2,hb,decide_eq_false c3,decide_eq_true c4]
  exact⟨_,_,rfl,rfl⟩
 have L:=rname_loop (vals:=valsOf tab) (call:=callAt Try.prog tab k) (n:=k) s (by omega) (by rw[decide_eq_true (show byteAt s 0≥97 by omega),decide_eq_true (show byteAt s 0≤122 by omega)];rfl) s.size 0 k (by omega) (by omega)
 rw[show((0:Nat):Int)=0 from rfl] at L
 cases hb2:(List.range' 0 s.size).any (badB s) with
 |true=>
  rw[hb2,if_pos rfl] at L
  simp +decide -implicitDefEqProofs only[k55,go_sem,bin_lss8,bin_gtr8,decide_eq_false c1,decide_eq_false c2,hb,decide_eq_false c3,decide_eq_false c4,L]
  exact⟨_,_,rfl,rfl⟩
 |false=>
  rw[hb2,if_neg (by decide)] at L
  simp +decide -implicitDefEqProofs only[k55,go_sem,bin_lss8,bin_gtr8,decide_eq_false c1,decide_eq_false c2,hb,decide_eq_false c3,decide_eq_false c4,L]
  exact⟨_,_,rfl,rfl⟩
end Go.Proofs.Ytkcimaibaicdcaa.Tk
namespace Go.Tm
def sizeOfL (l:List Block):Nat:=(l.map fun b=>b.ins.length).sum
theorem sizeOfL_drop {l:List Block}{i:Nat}(h:i<l.length):sizeOfL (l.drop i)=(blkAt l i).ins.length+sizeOfL (l.drop (i+1)):=by
 unfold sizeOfL blkAt
 rw[List.drop_eq_getElem_cons h,List.map_cons,List.sum_cons,Int.toNat_natCast,List.getD_eq_getElem?_getD,List.getElem?_eq_getElem h]
 rfl
end Go.Tm
namespace Go.Proofs.Ytkcimaibaicdcaa.Tk
open Go.Tm Go.Tm.Tab
theorem size_loop {vals:FuncId→Bool}{call:CallF}{n:Nat}(l:List Block)(hn:l.length≤2^20)(hb:∀b∈l,b.ins.length≤2^20):∀(d i m acc:Nat) (h:Heap),i+d=l.length→d<m→acc+2^20*d≤2^50→
  ∃h',Tm.Loop Try.prog vals call n [3,7,8,9] k107b0 m ⟨[(3,int acc),(7,blocks l),(8,int l.length),(9,int i)],h⟩=some (.exit 0,⟨[(3,int ((acc+sizeOfL (l.drop i):Nat):Int)),(7,blocks l),(8,int l.length),(9,int l.length),(10,bool false)],h'⟩)
 |0,i,m,acc,h,hi,hm,_=>by
  obtain⟨m,rfl⟩:∃p,m=p+1:=⟨m-1,by omega⟩
  obtain rfl:i=l.length:=by omega
  refine⟨h,?_⟩
  rw[Tm.Loop_succ,List.drop_eq_nil_of_le (Nat.le_refl _)]
  simp -implicitDefEqProofs only[k107b0,go_sem,Int.lt_irrefl,decide_false]
  rfl
 |d+1,i,m,acc,h,hi,hm,ha=>by
  obtain⟨m,rfl⟩:∃p,m=p+1:=⟨m-1,by omega⟩
  have e2:0≤(i:Int)∧(i:Int)<l.length:=by omega
  have hlb:=hb _ (blkAt_mem e2)
  have ih:=fun h=>size_loop (vals:=vals) (call:=call) (n:=n) l hn hb d (i+1) m (acc+(blkAt l i).ins.length) h (by omega) (by omega) (by omega)
  rw[Tm.Loop_succ,sizeOfL_drop (by omega),←Nat.add_assoc]
  generalize Tm.Loop Try.prog vals call n [3,7,8,9] k107b0 m=L at ih⊢
  have e1:decide ((i:Int)<l.length)=true:=by simp;omega
  have e3:=wrap_next (n:=l.length) (i:=i) (by omega) (by omega)
  have e4:IntKind.i64.wrap ((acc:Int)+((blkAt l i).ins.length:Int))=((acc+(blkAt l i).ins.length:Nat):Int):=by rw[wrap_in (by omega) (by omega)];omega
  have s1:∀a b:Tm.Node,(h++[a]).set h.length b=h++[b]:=fun a b=>by rw[List.set_append_right _ _ (Nat.le_refl _),Nat.sub_self];rfl
  obtain⟨h',ih⟩:=ih (h++[.row 0 [inss (blkAt l i).ins]])
  refine⟨h',?_⟩
  simp +decide -implicitDefEqProofs only[k107b0,go_sem,e1,e2,e3,e4,s1]
  exact ih
theorem size_runs (f:Tm.Func)(F:Fine f):Runs Try.prog tab 100 107 [.agg (encFunc f)] (int (sizeOfL f.blocks)):=by
 refine Runs.by (rs:=[.tmp 2]) (N:=20) rfl Try.func107 rfl rfl (by simp) fun k hk=>?_
 have hn:=F.blocks
 obtain⟨h',L⟩:=size_loop (vals:=valsOf tab) (call:=callAt Try.prog tab k) (n:=k) f.blocks (by omega) (fun b hb=>by have:=F.ins b hb;omega) f.blocks.length 0 k 0 [.row 0 (encFunc f)] (by omega) (by omega) (by omega)
 rw[show((0:Nat):Int)=0 from rfl,List.drop_zero,Nat.zero_add] at L
 rw[enc_func] at*
 simp +decide -implicitDefEqProofs only[k107,go_sem,L]
 exact⟨_,_,rfl,rfl⟩
theorem rsize_loop {vals:FuncId→Bool}{call:CallF}{n:Nat}(f:Tm.Func)(hn:f.blocks.length≤2^20)(hb:∀b∈f.blocks,b.ins.length≤2^20)(h:Heap)(h0:h[0]?=some (.row 0 (encFunc f))):∀(d i m acc:Nat),i+d=f.blocks.length→d<m→acc+2^20*d≤2^50→
  Tm.Loop Try.prog vals call n [1,3,4] k86b0 m ⟨[(1,.op 0 0),(3,int acc),(4,int i)],h⟩=some (.exit 0,⟨[(1,.op 0 0),(3,int ((acc+sizeOfL (f.blocks.drop i):Nat):Int)),(4,int f.blocks.length),(9,bool false)],h⟩)
 |0,i,m,acc,hi,hm,_=>by
  obtain⟨m,rfl⟩:∃p,m=p+1:=⟨m-1,by omega⟩
  obtain rfl:i=f.blocks.length:=by omega
  rw[Tm.Loop_succ,List.drop_eq_nil_of_le (Nat.le_refl _)]
  rw[enc_func] at h0
  simp -implicitDefEqProofs only[k86b0,go_sem,h0,Int.lt_irrefl,decide_false]
  rfl
 |d+1,i,m,acc,hi,hm,ha=>by
  obtain⟨m,rfl⟩:∃p,m=p+1:=⟨m-1,by omega⟩
  have e2:0≤(i:Int)∧(i:Int)<f.blocks.length:=by omega
  have hlb:=hb _ (blkAt_mem e2)
  have ih:=rsize_loop (vals:=vals) (call:=call) (n:=n) f hn hb h h0 d (i+1) m (acc+(blkAt f.blocks i).ins.length) (by omega) (by omega) (by omega)
  rw[Tm.Loop_succ,sizeOfL_drop (by omega),←Nat.add_assoc]
  generalize Tm.Loop Try.prog vals call n [1,3,4] k86b0 m=L at ih⊢
  have e1:decide ((i:Int)<f.blocks.length)=true:=by simp;omega
  have e3:=wrap_next (n:=f.blocks.length) (i:=i) (by omega) (by omega)
  have e4:IntKind.i64.wrap ((acc:Int)+((blkAt f.blocks i).ins.length:Int))=((acc+(blkAt f.blocks i).ins.length:Nat):Int):=by rw[wrap_in (by omega) (by omega)];omega
  rw[enc_func] at h0
  simp +decide -implicitDefEqProofs only[k86b0,go_sem,h0,e1,e2,e3,e4]
  exact ih
theorem rsize_runs (f:Tm.Func)(F:Fine f):Runs Try.prog tab 100 86 [.agg (encFunc f)] (int (sizeOfL f.blocks)):=by
 refine Runs.by (rs:=[.tmp 2]) (N:=22) rfl Try.func86 rfl rfl (by simp) fun k hk=>?_
 have hn:=F.blocks
 have L:=rsize_loop (vals:=valsOf tab) (call:=callAt Try.prog tab k) (n:=k) f (by omega) (fun b hb=>by have:=F.ins b hb;omega) [.row 0 (encFunc f)] rfl f.blocks.length 0 k 0 (by omega) (by omega) (by omega)
 rw[show((0:Nat):Int)=0 from rfl,List.drop_zero,Nat.zero_add] at L
 rw[enc_func] at*
 simp +decide -implicitDefEqProofs only[k86,go_sem,L]
 exact⟨_,_,rfl,rfl⟩
end Go.Proofs.Ytkcimaibaicdcaa.Tk
namespace Go.Tm
def extAt (l:List Extern)(i:Int):Extern:=l.getD i.toNat default
def gloAt (l:List Global)(i:Int):Global:=l.getD i.toNat default
def tblAt (l:List Table)(i:Int):Table:=l.getD i.toNat default
def fnAt (l:List Func)(i:Int):Func:=l.getD i.toNat default
@[go_sem] theorem idx_externs (l:List Extern)(i:Int):idxC 3 (externs l) i=if 0≤i∧i<l.length then some (.fp (str (extAt l i).name::ints (extAt l i).params::int (extAt l i).result::restOf encExtern l i)) else none:=by
 simp only[externs,idxC]
 split
 ·rename_i h;rw[at_flat (f:=encExtern) (s:=3) (fun _=>rfl) default h];rfl
 ·rfl
@[go_sem] theorem idx_globals (l:List Global)(i:Int):idxC 2 (globals l) i=if 0≤i∧i<l.length then some (.fp (str (gloAt l i).name::ints (gloAt l i).cells::restOf encGlobal l i)) else none:=by
 simp only[globals,idxC]
 split
 ·rename_i h;rw[at_flat (f:=encGlobal) (s:=2) (fun _=>rfl) default h];rfl
 ·rfl
@[go_sem] theorem idx_tables (l:List Table)(i:Int):idxC 2 (tables l) i=if 0≤i∧i<l.length then some (.fp (str (tblAt l i).name::ints (tblAt l i).funcs::restOf encTable l i)) else none:=by
 simp only[tables,idxC]
 split
 ·rename_i h;rw[at_flat (f:=encTable) (s:=2) (fun _=>rfl) default h];rfl
 ·rfl
@[go_sem] theorem idx_funcs (l:List Func)(i:Int):idxC 5 (funcs l) i=if 0≤i∧i<l.length then some (.fp (str (fnAt l i).name::bool (fnAt l i).out::ints (fnAt l i).params::int (fnAt l i).result::blocks (fnAt l i).blocks::restOf encFunc l i)) else none:=by
 simp only[funcs,idxC]
 split
 ·rename_i h;rw[at_flat (f:=encFunc) (s:=5) (fun _=>rfl) default h];rfl
 ·rfl
@[go_sem] theorem len_externs (l:List Extern):lenS (externs l)=some (int l.length):=rfl
@[go_sem] theorem len_globals (l:List Global):lenS (globals l)=some (int l.length):=rfl
@[go_sem] theorem len_tables (l:List Table):lenS (tables l)=some (int l.length):=rfl
@[go_sem] theorem len_funcs (l:List Func):lenS (funcs l)=some (int l.length):=rfl
@[go_sem] theorem cell_externs (l:List Extern):(externs l).isCell=true:=rfl
@[go_sem] theorem cell_globals (l:List Global):(globals l).isCell=true:=rfl
@[go_sem] theorem cell_tables (l:List Table):(tables l).isCell=true:=rfl
@[go_sem] theorem cell_funcs (l:List Func):(funcs l).isCell=true:=rfl
theorem getD_mem {α:Type}{l:List α}{i:Nat}{z:α}(h:i<l.length):l.getD i z∈l:=by
 rw[List.getD_eq_getElem?_getD,List.getElem?_eq_getElem h];exact List.getElem_mem _
theorem any_at {α:Type}(z:α)(p:α→Bool):∀(l:List α) (k:Nat) (g:Nat→Bool),(∀i,g (k+i)=p (l.getD i z))→(List.range' k l.length).any g=l.any p
 |[],_,_,_=>rfl
 |x::l,k,g,h=>by
  rw[List.length_cons,List.range'_succ,List.any_cons,List.any_cons,any_at z p l (k+1) g fun i=>by rw[show k+1+i=k+(i+1) by omega,h];rfl]
  rw[show g k=p x from h 0]
theorem any_exts (p:Extern→Bool)(l:List Extern):(List.range' 0 l.length).any (fun i=>p (extAt l i))=l.any p:=any_at default p l 0 _ fun i=>by rw[Nat.zero_add];rfl
theorem any_glos (p:Global→Bool)(l:List Global):(List.range' 0 l.length).any (fun i=>p (gloAt l i))=l.any p:=any_at default p l 0 _ fun i=>by rw[Nat.zero_add];rfl
theorem any_tbls (p:Table→Bool)(l:List Table):(List.range' 0 l.length).any (fun i=>p (tblAt l i))=l.any p:=any_at default p l 0 _ fun i=>by rw[Nat.zero_add];rfl
theorem any_fns (p:Func→Bool)(l:List Func):(List.range' 0 l.length).any (fun i=>p (fnAt l i))=l.any p:=any_at default p l 0 _ fun i=>by rw[Nat.zero_add];rfl
theorem any_blks (p:Block→Bool)(l:List Block):(List.range' 0 l.length).any (fun i=>p (blkAt l i))=l.any p:=any_at default p l 0 _ fun i=>by rw[Nat.zero_add];rfl
theorem any_inss (p:Ins→Bool)(l:List Ins):(List.range' 0 l.length).any (fun i=>p (insAt l i))=l.any p:=any_at default p l 0 _ fun i=>by rw[Nat.zero_add];rfl
theorem any_ints (p:Int→Bool)(l:List Int):(List.range' 0 l.length).any (fun i=>p (rd l i))=l.any p:=any_at 0 p l 0 _ fun i=>by rw[Nat.zero_add];rfl
theorem Loop_any {P:Program}{vals:FuncId→Bool}{call:CallF}{n:Nat}{ks:List Nat}{K:K}{id:Nat}(N:Nat)(bad:Nat→Bool)(S:Nat→Env)(R T:Env)(I:Heap→Prop)
  (hs:∀i h,i<N→I h→∃h',I h'∧exec P vals call n K ⟨keepE (S i) ks,h⟩=some (if bad i=true then(.ret,⟨R,h'⟩) else(.normal,⟨S (i+1),h'⟩)))
  (he:∀h,I h→∃h',I h'∧exec P vals call n K ⟨keepE (S N) ks,h⟩=some (.exit id,⟨T,h'⟩)):
  ∀(d i m:Nat) (h:Heap),i+d=N→d<m→I h→∃h',I h'∧Tm.Loop P vals call n ks K m ⟨S i,h⟩=some (if (List.range' i d).any bad=true then(.ret,⟨R,h'⟩) else(.exit id,⟨T,h'⟩))
 |0,i,m,h,hi,hm,hI=>by
  obtain⟨m,rfl⟩:∃p,m=p+1:=⟨m-1,by omega⟩
  obtain rfl:i=N:=by omega
  obtain⟨h',h1,h2⟩:=he h hI
  exact⟨h',h1,by rw[Tm.Loop_succ,h2];rfl⟩
 |d+1,i,m,h,hi,hm,hI=>by
  obtain⟨m,rfl⟩:∃p,m=p+1:=⟨m-1,by omega⟩
  obtain⟨h',h1,h2⟩:=hs i h (by omega) hI
  rw[List.range'_succ,List.any_cons,Tm.Loop_succ,h2]
  cases hb:bad i with
  |true=>exact⟨h',h1,by rw[Bool.true_or];rfl⟩
  |false=>
   obtain⟨h'',h3,h4⟩:=Loop_any N bad S R T I hs he d (i+1) m h' (by omega) (by omega) h1
   exact⟨h'',h3,by rw[Bool.false_or,←h4];rfl⟩
def Has (l:Nat)(nd:Node)(h:Heap):Prop:=h[l]?=some nd
theorem Has.push {l:Nat}{nd x:Node}{h:Heap}(H:Has l nd h):Has l nd (h++[x]):=by
 unfold Has at *; rw[List.getElem?_append_left (List.getElem?_eq_some_iff.1 H).1];exact H
theorem set_new (h:Heap)(a b:Node):(h++[a]).set h.length b=h++[b]:=by rw[List.set_append_right _ _ (Nat.le_refl _),Nat.sub_self];rfl
theorem enc_module (m:Module):encModule m=[externs m.externs,globals m.globals,tables m.tables,funcs m.funcs]:=rfl
def moreX (x:Extern):Bool:=decide ((x.params.length:Int)>5)
def moreG (x:Global):Bool:=decide ((x.cells.length:Int)<1)||decide ((x.cells.length:Int)>16)
def moreT (x:Table):Bool:=decide ((x.funcs.length:Int)<1)||decide ((x.funcs.length:Int)>12)
def moreF (x:Func):Bool:=((decide ((x.params.length:Int)>5)||decide ((x.blocks.length:Int)<1))||decide ((x.blocks.length:Int)>40))||decide ((sizeOfL x.blocks:Int)>300)
def limitsB (m:Module):Bool:=
 !(((decide ((m.funcs.length:Int)>24)||decide ((m.externs.length:Int)>12))||decide ((m.globals.length:Int)>12))||decide ((m.tables.length:Int)>6))&&(!m.externs.any moreX&&(!m.globals.any moreG&&(!m.tables.any moreT&&!m.funcs.any moreF)))
end Go.Tm
namespace Go.Proofs.Ytkcimaibaicdcaa.Tk
open Go.Tm Go.Tm.Tab
structure FineM (m:Tm.Module):Prop where
 externs:m.externs.length≤14
 globals:m.globals.length≤14
 tables:m.tables.length≤8
 funcs:m.funcs.length≤26
 ext:∀x∈m.externs,x.name.size≤40∧x.params.length≤10
 glo:∀x∈m.globals,x.name.size≤40∧x.cells.length≤20
 tbl:∀x∈m.tables,x.name.size≤40∧x.funcs.length≤16
 fn:∀x∈m.funcs,Fine x∧x.name.size≤40∧x.params.length≤8
theorem wsmall_runs (m:Tm.Module)(F:FineM m):Runs Try.prog tab 200 87 [.agg (encModule m)] (bool (limitsB m)):=by
 refine Runs.by (rs:=[.tmp 2]) (N:=110) rfl Try.func87 rfl rfl (by simp) fun k hk=>?_
 have b1:=F.externs
 have b2:=F.globals
 have b3:=F.tables
 have b4:=F.funcs
 have hsz:∀(x:Tm.Func) (h:Heap),x∈m.funcs→callAt Try.prog tab k 107 [.agg (encFunc x)] h=some (int (sizeOfL x.blocks),h):=fun x h hx=>size_runs x (F.fn x hx).1 k (by omega) _ h (by simp only[mapC_cons,mapC_nil,depth,view_func,Option.bind_some])
 generalize hc:callAt Try.prog tab k=call at hsz
 generalize hv:valsOf tab=vals
 rw[enc_module]
 generalize hI:Has 0 (.row 0 [externs m.externs,globals m.globals,tables m.tables,funcs m.funcs])=I
 have hp:∀h x,I h→I (h++[x]):=by rw[←hI];exact fun h x H=>H.push
 have hg:∀h,I h→h[0]?=some (.row 0 [externs m.externs,globals m.globals,tables m.tables,funcs m.funcs]):=by rw[←hI];exact fun h H=>H
 have i0:I [.row 0 [externs m.externs,globals m.globals,tables m.tables,funcs m.funcs]]:=by rw[←hI];rfl
 have L1:=Loop_any (P:=Try.prog) (vals:=vals) (call:=call) (n:=k) (ks:=[1,34,35,36]) (K:=k87b0) (id:=0) m.externs.length (fun i=>moreX (extAt m.externs i)) (fun i=>[(1,.op 0 0),(34,externs m.externs),(35,int m.externs.length),(36,int i)]) [(2,bool false)] [(1,.op 0 0),(34,externs m.externs),(35,int m.externs.length),(36,int m.externs.length),(37,bool false)] I
  (fun i h hi hI=>⟨_,hp _ (.row 0 (encExtern (extAt m.externs i))) hI,by
   have e1:decide ((i:Int)<m.externs.length)=true:=by simp;omega
   have e2:0≤(i:Int)∧(i:Int)<m.externs.length:=by omega
   have e3:=wrap_next (n:=m.externs.length) (i:=i) (by omega) (by omega)
   unfold moreX
   cases c1:decide (((extAt m.externs i).params.length:Int)>5)<;>simp +decide -implicitDefEqProofs only[k87b0,go_sem,e1,e2,e3,set_new,c1,encExtern]⟩)
  (fun h hI=>⟨h,hI,by simp -implicitDefEqProofs only[k87b0,go_sem,Int.lt_irrefl,decide_false]⟩)
 have L2:=Loop_any (P:=Try.prog) (vals:=vals) (call:=call) (n:=k) (ks:=[1,46,47,48]) (K:=k87b1) (id:=2) m.globals.length (fun i=>moreG (gloAt m.globals i)) (fun i=>[(1,.op 0 0),(46,globals m.globals),(47,int m.globals.length),(48,int i)]) [(2,bool false)] [(1,.op 0 0),(46,globals m.globals),(47,int m.globals.length),(48,int m.globals.length),(49,bool false)] I
  (fun i h hi hI=>⟨_,hp _ (.row 0 (encGlobal (gloAt m.globals i))) hI,by
   have e1:decide ((i:Int)<m.globals.length)=true:=by simp;omega
   have e2:0≤(i:Int)∧(i:Int)<m.globals.length:=by omega
   have e3:=wrap_next (n:=m.globals.length) (i:=i) (by omega) (by omega)
   unfold moreG
   cases c1:decide (((gloAt m.globals i).cells.length:Int)<1)<;>cases c2:decide (((gloAt m.globals i).cells.length:Int)>16)<;>simp +decide -implicitDefEqProofs only[k87b1,go_sem,e1,e2,e3,set_new,c1,c2,encGlobal]⟩)
  (fun h hI=>⟨h,hI,by simp -implicitDefEqProofs only[k87b1,go_sem,Int.lt_irrefl,decide_false]⟩)
 have L3:=Loop_any (P:=Try.prog) (vals:=vals) (call:=call) (n:=k) (ks:=[1,64,65,66]) (K:=k87b2) (id:=4) m.tables.length (fun i=>moreT (tblAt m.tables i)) (fun i=>[(1,.op 0 0),(64,tables m.tables),(65,int m.tables.length),(66,int i)]) [(2,bool false)] [(1,.op 0 0),(64,tables m.tables),(65,int m.tables.length),(66,int m.tables.length),(67,bool false)] I
  (fun i h hi hI=>⟨_,hp _ (.row 0 (encTable (tblAt m.tables i))) hI,by
   have e1:decide ((i:Int)<m.tables.length)=true:=by simp;omega
   have e2:0≤(i:Int)∧(i:Int)<m.tables.length:=by omega
   have e3:=wrap_next (n:=m.tables.length) (i:=i) (by omega) (by omega)
   unfold moreT
   cases c1:decide (((tblAt m.tables i).funcs.length:Int)<1)<;>cases c2:decide (((tblAt m.tables i).funcs.length:Int)>12)<;>simp +decide -implicitDefEqProofs only[k87b2,go_sem,e1,e2,e3,set_new,c1,c2,encTable]⟩)
  (fun h hI=>⟨h,hI,by simp -implicitDefEqProofs only[k87b2,go_sem,Int.lt_irrefl,decide_false]⟩)
 have L4:=Loop_any (P:=Try.prog) (vals:=vals) (call:=call) (n:=k) (ks:=[82,83,84]) (K:=k87b3) (id:=6) m.funcs.length (fun i=>moreF (fnAt m.funcs i)) (fun i=>[(82,funcs m.funcs),(83,int m.funcs.length),(84,int i)]) [(2,bool false)] [(82,funcs m.funcs),(83,int m.funcs.length),(84,int m.funcs.length),(85,bool false)] I
  (fun i h hi hI=>⟨_,hp _ (.row 0 (encFunc (fnAt m.funcs i))) hI,by
   have e1:decide ((i:Int)<m.funcs.length)=true:=by simp;omega
   have e2:0≤(i:Int)∧(i:Int)<m.funcs.length:=by omega
   have e3:=wrap_next (n:=m.funcs.length) (i:=i) (by omega) (by omega)
   have e5:=fun h=>hsz (fnAt m.funcs i) h (getD_mem hi)
   simp only[encFunc] at e5
   unfold moreF
   cases c1:decide (((fnAt m.funcs i).params.length:Int)>5)<;>cases c2:decide (((fnAt m.funcs i).blocks.length:Int)<1)<;>cases c3:decide (((fnAt m.funcs i).blocks.length:Int)>40)<;>cases c4:decide ((sizeOfL (fnAt m.funcs i).blocks:Int)>300)<;>simp +decide -implicitDefEqProofs only[k87b3,go_sem,e1,e2,e3,set_new,c1,c2,c3,c4,encFunc,e5]⟩)
  (fun h hI=>⟨h,hI,by simp -implicitDefEqProofs only[k87b3,go_sem,Int.lt_irrefl,decide_false]⟩)
 obtain⟨h1,I1,L1⟩:=L1 m.externs.length 0 k _ (by omega) (by omega) i0
 obtain⟨h2,I2,L2⟩:=L2 m.globals.length 0 k _ (by omega) (by omega) I1
 obtain⟨h3,I3,L3⟩:=L3 m.tables.length 0 k _ (by omega) (by omega) I2
 obtain⟨h4,I4,L4⟩:=L4 m.funcs.length 0 k _ (by omega) (by omega) I3
 simp only[show((0:Nat):Int)=0 from rfl] at L1 L2 L3 L4
 rw[any_exts] at L1
 rw[any_glos] at L2
 rw[any_tbls] at L3
 rw[any_fns] at L4
 have g1:=hg h1 I1
 have g2:=hg h2 I2
 have g3:=hg h3 I3
 unfold limitsB
 obtain⟨d1,q1⟩:∃d,decide ((m.funcs.length:Int)>24)=d:=⟨_,rfl⟩
 obtain⟨d2,q2⟩:∃d,decide ((m.externs.length:Int)>12)=d:=⟨_,rfl⟩
 obtain⟨d3,q3⟩:∃d,decide ((m.globals.length:Int)>12)=d:=⟨_,rfl⟩
 obtain⟨d4,q4⟩:∃d,decide ((m.tables.length:Int)>6)=d:=⟨_,rfl⟩
 rw[q1,q2,q3,q4]
 generalize m.externs.any moreX=x1 at L1⊢
 generalize m.globals.any moreG=x2 at L2⊢
 generalize m.tables.any moreT=x3 at L3⊢
 generalize m.funcs.any moreF=x4 at L4⊢
 have fall:(d1||d2||d3||d4)=true→∃c h',fin Try.prog [.tmp 2] (exec Try.prog vals call k k87 ⟨[(0,.agg [externs m.externs,globals m.globals,tables m.tables,funcs m.funcs])],[]⟩)=some (c,h')∧view true h' depth c=some (bool false):=by
  intro hd
  cases d1<;>cases d2<;>cases d3<;>cases d4<;>first|(exact absurd hd (by decide))|(simp +decide -implicitDefEqProofs only[k87,go_sem,q1,q2,q3,q4];exact⟨_,_,rfl,rfl⟩)
 cases hd:(d1||d2||d3||d4) with
 |true=>exact fall hd
 |false=>
  obtain⟨⟨⟨rfl,rfl⟩,rfl⟩,rfl⟩:((d1=false∧d2=false)∧d3=false)∧d4=false:=by simpa only[Bool.or_eq_false_iff] using hd
  clear fall
  cases x1 with
  |true=>simp +decide -implicitDefEqProofs only[k87,go_sem,q1,q2,q3,q4,L1];exact⟨_,_,rfl,rfl⟩
  |false=>
   cases x2 with
   |true=>simp +decide -implicitDefEqProofs only[k87,go_sem,q1,q2,q3,q4,L1,L2,g1,g2,g3];exact⟨_,_,rfl,rfl⟩
   |false=>
    cases x3 with
    |true=>simp +decide -implicitDefEqProofs only[k87,go_sem,q1,q2,q3,q4,L1,L2,L3,g1,g2,g3];exact⟨_,_,rfl,rfl⟩
    |false=>
     cases x4<;>(simp +decide -implicitDefEqProofs only[k87,go_sem,q1,q2,q3,q4,L1,L2,L3,L4,g1,g2,g3];exact⟨_,_,rfl,rfl⟩)
theorem rlimits_runs (m:Tm.Module)(F:FineM m):Runs Try.prog tab 200 79 [.agg (encModule m)] (bool (limitsB m)):=by
 refine Runs.by (rs:=[.tmp 2]) (N:=120) rfl Try.func79 rfl rfl (by simp) fun k hk=>?_
 have b1:=F.externs
 have b2:=F.globals
 have b3:=F.tables
 have b4:=F.funcs
 have hsz:∀(x:Tm.Func) (h:Heap),x∈m.funcs→callAt Try.prog tab k 86 [.agg (encFunc x)] h=some (int (sizeOfL x.blocks),h):=fun x h hx=>rsize_runs x (F.fn x hx).1 k (by omega) _ h (by simp only[mapC_cons,mapC_nil,depth,view_func,Option.bind_some])
 generalize hc:callAt Try.prog tab k=call at hsz
 generalize hv:valsOf tab=vals
 rw[enc_module]
 generalize hI:Has 0 (.row 0 [externs m.externs,globals m.globals,tables m.tables,funcs m.funcs])=I
 have hp:∀h x,I h→I (h++[x]):=by rw[←hI];exact fun h x H=>H.push
 have hg:∀h,I h→h[0]?=some (.row 0 [externs m.externs,globals m.globals,tables m.tables,funcs m.funcs]):=by rw[←hI];exact fun h H=>H
 have i0:I [.row 0 [externs m.externs,globals m.globals,tables m.tables,funcs m.funcs]]:=by rw[←hI];rfl
 have L1:=Loop_any (P:=Try.prog) (vals:=vals) (call:=call) (n:=k) (ks:=[1,3]) (K:=k79b0) (id:=0) m.externs.length (fun i=>moreX (extAt m.externs i)) (fun i=>[(1,.op 0 0),(3,int i)]) [(2,bool false)] [(1,.op 0 0),(3,int m.externs.length),(36,bool false)] I
  (fun i h hi hI=>⟨h,hI,by
   have e1:decide ((i:Int)<m.externs.length)=true:=by simp;omega
   have e2:0≤(i:Int)∧(i:Int)<m.externs.length:=by omega
   have e3:=wrap_next (n:=m.externs.length) (i:=i) (by omega) (by omega)
   have g0:=hg h hI
   unfold moreX
   cases c1:decide (((extAt m.externs i).params.length:Int)>5)<;>simp +decide -implicitDefEqProofs only[k79b0,go_sem,e1,e2,e3,set_new,c1,g0]⟩)
  (fun h hI=>⟨h,hI,by have g0:=hg h hI;simp -implicitDefEqProofs only[k79b0,go_sem,g0,Int.lt_irrefl,decide_false]⟩)
 have L2:=Loop_any (P:=Try.prog) (vals:=vals) (call:=call) (n:=k) (ks:=[1,4]) (K:=k79b1) (id:=2) m.globals.length (fun i=>moreG (gloAt m.globals i)) (fun i=>[(1,.op 0 0),(4,int i)]) [(2,bool false)] [(1,.op 0 0),(4,int m.globals.length),(51,bool false)] I
  (fun i h hi hI=>⟨h,hI,by
   have e1:decide ((i:Int)<m.globals.length)=true:=by simp;omega
   have e2:0≤(i:Int)∧(i:Int)<m.globals.length:=by omega
   have e3:=wrap_next (n:=m.globals.length) (i:=i) (by omega) (by omega)
   have g0:=hg h hI
   unfold moreG
   cases c1:decide (((gloAt m.globals i).cells.length:Int)<1)<;>cases c2:decide (((gloAt m.globals i).cells.length:Int)>16)<;>simp +decide -implicitDefEqProofs only[k79b1,go_sem,e1,e2,e3,set_new,c1,c2,g0]⟩)
  (fun h hI=>⟨h,hI,by have g0:=hg h hI;simp -implicitDefEqProofs only[k79b1,go_sem,g0,Int.lt_irrefl,decide_false]⟩)
 have L3:=Loop_any (P:=Try.prog) (vals:=vals) (call:=call) (n:=k) (ks:=[1,6]) (K:=k79b2) (id:=4) m.tables.length (fun i=>moreT (tblAt m.tables i)) (fun i=>[(1,.op 0 0),(6,int i)]) [(2,bool false)] [(1,.op 0 0),(6,int m.tables.length),(71,bool false)] I
  (fun i h hi hI=>⟨h,hI,by
   have e1:decide ((i:Int)<m.tables.length)=true:=by simp;omega
   have e2:0≤(i:Int)∧(i:Int)<m.tables.length:=by omega
   have e3:=wrap_next (n:=m.tables.length) (i:=i) (by omega) (by omega)
   have g0:=hg h hI
   unfold moreT
   cases c1:decide (((tblAt m.tables i).funcs.length:Int)<1)<;>cases c2:decide (((tblAt m.tables i).funcs.length:Int)>12)<;>simp +decide -implicitDefEqProofs only[k79b2,go_sem,e1,e2,e3,set_new,c1,c2,g0]⟩)
  (fun h hI=>⟨h,hI,by have g0:=hg h hI;simp -implicitDefEqProofs only[k79b2,go_sem,g0,Int.lt_irrefl,decide_false]⟩)
 have L4:=Loop_any (P:=Try.prog) (vals:=vals) (call:=call) (n:=k) (ks:=[1,8]) (K:=k79b3) (id:=6) m.funcs.length (fun i=>moreF (fnAt m.funcs i)) (fun i=>[(1,.op 0 0),(8,int i)]) [(2,bool false)] [(1,.op 0 0),(8,int m.funcs.length),(91,bool false)] I
  (fun i h hi hI=>⟨_,hp _ (.row 0 (encFunc (fnAt m.funcs i))) hI,by
   have e1:decide ((i:Int)<m.funcs.length)=true:=by simp;omega
   have e2:0≤(i:Int)∧(i:Int)<m.funcs.length:=by omega
   have e3:=wrap_next (n:=m.funcs.length) (i:=i) (by omega) (by omega)
   have g0:=hg h hI
   have e5:=fun h=>hsz (fnAt m.funcs i) h (getD_mem hi)
   simp only[encFunc] at e5
   unfold moreF
   cases c1:decide (((fnAt m.funcs i).params.length:Int)>5)<;>cases c2:decide (((fnAt m.funcs i).blocks.length:Int)<1)<;>cases c3:decide (((fnAt m.funcs i).blocks.length:Int)>40)<;>cases c4:decide ((sizeOfL (fnAt m.funcs i).blocks:Int)>300)<;>simp +decide -implicitDefEqProofs only[k79b3,go_sem,e1,e2,e3,set_new,c1,c2,c3,c4,g0,encFunc,e5,get_new,(hp h _ hI:I _),hg _ (hp h _ hI)]⟩)
  (fun h hI=>⟨h,hI,by have g0:=hg h hI;simp -implicitDefEqProofs only[k79b3,go_sem,g0,Int.lt_irrefl,decide_false]⟩)
 obtain⟨h1,I1,L1⟩:=L1 m.externs.length 0 k _ (by omega) (by omega) i0
 obtain⟨h2,I2,L2⟩:=L2 m.globals.length 0 k _ (by omega) (by omega) I1
 obtain⟨h3,I3,L3⟩:=L3 m.tables.length 0 k _ (by omega) (by omega) I2
 obtain⟨h4,I4,L4⟩:=L4 m.funcs.length 0 k _ (by omega) (by omega) I3
 simp only[show((0:Nat):Int)=0 from rfl] at L1 L2 L3 L4
 rw[any_exts] at L1
 rw[any_glos] at L2
 rw[any_tbls] at L3
 rw[any_fns] at L4
 have g1:=hg h1 I1
 have g2:=hg h2 I2
 have g3:=hg h3 I3
 unfold limitsB
 obtain⟨d1,q1⟩:∃d,decide ((m.funcs.length:Int)>24)=d:=⟨_,rfl⟩
 obtain⟨d2,q2⟩:∃d,decide ((m.externs.length:Int)>12)=d:=⟨_,rfl⟩
 obtain⟨d3,q3⟩:∃d,decide ((m.globals.length:Int)>12)=d:=⟨_,rfl⟩
 obtain⟨d4,q4⟩:∃d,decide ((m.tables.length:Int)>6)=d:=⟨_,rfl⟩
 rw[q1,q2,q3,q4]
 generalize m.externs.any moreX=x1 at L1⊢
 generalize m.globals.any moreG=x2 at L2⊢
 generalize m.tables.any moreT=x3 at L3⊢
 generalize m.funcs.any moreF=x4 at L4⊢
 have fall:(d1||d2||d3||d4)=true→∃c h',fin Try.prog [.tmp 2] (exec Try.prog vals call k k79 ⟨[(0,.agg [externs m.externs,globals m.globals,tables m.tables,funcs m.funcs])],[]⟩)=some (c,h')∧view true h' depth c=some (bool false):=by
  intro hd
  cases d1<;>cases d2<;>cases d3<;>cases d4<;>first|(exact absurd hd (by decide))|(simp +decide -implicitDefEqProofs only[k79,go_sem,q1,q2,q3,q4];exact⟨_,_,rfl,rfl⟩)
 cases hd:(d1||d2||d3||d4) with
 |true=>exact fall hd
 |false=>
  obtain⟨⟨⟨rfl,rfl⟩,rfl⟩,rfl⟩:((d1=false∧d2=false)∧d3=false)∧d4=false:=by simpa only[Bool.or_eq_false_iff] using hd
  clear fall
  cases x1 with
  |true=>simp +decide -implicitDefEqProofs only[k79,go_sem,q1,q2,q3,q4,L1];exact⟨_,_,rfl,rfl⟩
  |false=>
   cases x2 with
   |true=>simp +decide -implicitDefEqProofs only[k79,go_sem,q1,q2,q3,q4,L1,L2,g1,g2,g3];exact⟨_,_,rfl,rfl⟩
   |false=>
    cases x3 with
    |true=>simp +decide -implicitDefEqProofs only[k79,go_sem,q1,q2,q3,q4,L1,L2,L3,g1,g2,g3];exact⟨_,_,rfl,rfl⟩
    |false=>
     cases x4<;>(simp +decide -implicitDefEqProofs only[k79,go_sem,q1,q2,q3,q4,L1,L2,L3,L4,g1,g2,g3];exact⟨_,_,rfl,rfl⟩)
def badT (t:Int):Bool:= !scalB t
def badR (r:Int):Bool:=(!decide (r=0))&&badT r
def badX (x:Extern):Bool:=x.params.any badT||badR x.result
def badO (o:Bool)(r:Int):Bool:=badR r&&(!decide (r=4)||o)
def badP (o:Bool)(t:Int):Bool:=(decide (t<1)||decide (t>4))||(o&&badT t)
def badI (x:Ins):Bool:= !shapeB x
def badB2 (b:Block):Bool:=b.ins.any badI
def badF (f:Tm.Func):Bool:=badO f.out f.result||(f.params.any (badP f.out)||f.blocks.any badB2)
def formedB (m:Tm.Module):Bool:= !m.externs.any badX&&!m.funcs.any badF
theorem formed_l0 {vals:FuncId→Bool}{call:CallF}{n:Nat}(a b c d f:C)(l:List Int)(hl:l.length<2^50)(h:Heap)(hs:∀t h,call 108 [int t] h=some (bool (scalB t),h))(m:Nat)(hm:l.length<m):Tm.Loop Try.prog vals call n [1,4,16,17,18,23,24,25] k88b0 m ⟨[(1,a),(4,b),(16,c),(17,d),(18,f),(23,ints l),(24,int l.length),(25,int 0)],h⟩=some (if l.any badT=true then(.ret,⟨[(2,bool false)],h⟩) else(.exit 2,⟨[(1,a),(4,b),(16,c),(17,d),(18,f),(23,ints l),(24,int l.length),(25,int l.length),(26,bool false)],h⟩)):=by
 obtain⟨h1,e,L⟩:=Loop_any (P:=Try.prog) (vals:=vals) (call:=call) (n:=n) (ks:=[1,4,16,17,18,23,24,25]) (K:=k88b0) (id:=2) l.length (fun i=>badT (rd l i)) (fun i=>[(1,a),(4,b),(16,c),(17,d),(18,f),(23,ints l),(24,int l.length),(25,int i)]) [(2,bool false)] [(1,a),(4,b),(16,c),(17,d),(18,f),(23,ints l),(24,int l.length),(25,int l.length),(26,bool false)] (fun g=>g=h)
  (fun i g hi hg=>⟨h,rfl,by
   rw[hg]
   have e1:decide ((i:Int)<l.length)=true:=by simp;omega
   have e2:0≤(i:Int)∧(i:Int)<l.length:=by omega
   have e3:=wrap_next (n:=l.length) (i:=i) (by omega) (by omega)
   unfold badT
   cases c1:scalB (rd l i)<;>simp +decide -implicitDefEqProofs only[k88b0,go_sem,e1,e2,e3,set_new,c1,hs]⟩)
  (fun g hg=>⟨h,rfl,by rw[hg];simp +decide -implicitDefEqProofs only[k88b0,go_sem,Int.lt_irrefl,decide_false]⟩) l.length 0 m h (by omega) hm rfl
 rw[e] at L
 simp only[show((0:Nat):Int)=0 from rfl] at L
 rw[any_ints] at L
 exact L
theorem formed_l2 {vals:FuncId→Bool}{call:CallF}{n:Nat}(b c d:C)(p:Nat)(u v w z:C)(o:Bool)(l:List Int)(hl:l.length<2^50)(h:Heap)(hs:∀t h,call 108 [int t] h=some (bool (scalB t),h))(h0:h[p]?=some (.row 0 [u,bool o,v,w,z]))(m:Nat)(hm:l.length<m):Tm.Loop Try.prog vals call n [8,44,45,46,69,70,71] k88b2 m ⟨[(8,.op p 0),(44,b),(45,c),(46,d),(69,ints l),(70,int l.length),(71,int 0)],h⟩=some (if l.any (badP o)=true then(.ret,⟨[(2,bool false)],h⟩) else(.exit 6,⟨[(8,.op p 0),(44,b),(45,c),(46,d),(69,ints l),(70,int l.length),(71,int l.length),(72,bool false)],h⟩)):=by
 obtain⟨h1,e,L⟩:=Loop_any (P:=Try.prog) (vals:=vals) (call:=call) (n:=n) (ks:=[8,44,45,46,69,70,71]) (K:=k88b2) (id:=6) l.length (fun i=>badP o (rd l i)) (fun i=>[(8,.op p 0),(44,b),(45,c),(46,d),(69,ints l),(70,int l.length),(71,int i)]) [(2,bool false)] [(8,.op p 0),(44,b),(45,c),(46,d),(69,ints l),(70,int l.length),(71,int l.length),(72,bool false)] (fun g=>g=h)
  (fun i g hi hg=>⟨h,rfl,by
   rw[hg]
   have e1:decide ((i:Int)<l.length)=true:=by simp;omega
   have e2:0≤(i:Int)∧(i:Int)<l.length:=by omega
   have e3:=wrap_next (n:=l.length) (i:=i) (by omega) (by omega)
   unfold badP badT
   cases c1:decide (rd l i<1)<;>cases c2:decide (rd l i>4)<;>cases c3:o<;>cases c4:scalB (rd l i)<;>simp +decide -implicitDefEqProofs only[k88b2,go_sem,e1,e2,e3,set_new,c1,c2,c3,c4,hs,h0]⟩)
  (fun g hg=>⟨h,rfl,by rw[hg];simp +decide -implicitDefEqProofs only[k88b2,go_sem,Int.lt_irrefl,decide_false]⟩) l.length 0 m h (by omega) hm rfl
 rw[e] at L
 simp only[show((0:Nat):Int)=0 from rfl] at L
 rw[any_ints] at L
 exact L
theorem formed_l3 {vals:FuncId→Bool}{call:CallF}{n:Nat}(a b c d f g:C)(l:List Ins)(hl:l.length<2^50)(I:Heap→Prop)(hp:∀h x,I h→I (h++[x]))(hs:∀x∈l,∀h,call 109 [.agg (encIns x)] h=some (bool (shapeB x),h))(m:Nat)(hm:l.length<m)(h:Heap)(hI:I h):∃h1,I h1∧Tm.Loop Try.prog vals call n [44,45,46,92,93,94,99,100,101] k88b3 m ⟨[(44,a),(45,b),(46,c),(92,d),(93,f),(94,g),(99,inss l),(100,int l.length),(101,int 0)],h⟩=some (if l.any badI=true then(.ret,⟨[(2,bool false)],h1⟩) else(.exit 10,⟨[(44,a),(45,b),(46,c),(92,d),(93,f),(94,g),(99,inss l),(100,int l.length),(101,int l.length),(102,bool false)],h1⟩)):=by
 obtain⟨h1,J,L⟩:=Loop_any (P:=Try.prog) (vals:=vals) (call:=call) (n:=n) (ks:=[44,45,46,92,93,94,99,100,101]) (K:=k88b3) (id:=10) l.length (fun i=>badI (insAt l i)) (fun i=>[(44,a),(45,b),(46,c),(92,d),(93,f),(94,g),(99,inss l),(100,int l.length),(101,int i)]) [(2,bool false)] [(44,a),(45,b),(46,c),(92,d),(93,f),(94,g),(99,inss l),(100,int l.length),(101,int l.length),(102,bool false)] I
  (fun i h hi hI=>by
   have e1:decide ((i:Int)<l.length)=true:=by simp;omega
   have e2:0≤(i:Int)∧(i:Int)<l.length:=by omega
   have e3:=wrap_next (n:=l.length) (i:=i) (by omega) (by omega)
   have hc:=fun h=>hs (insAt l i) (insAt_mem e2) h
   refine⟨_,hp _ (.row 0 (encIns (insAt l i))) hI,?_⟩
   unfold badI
   simp only[encIns] at hc⊢
   cases c1:shapeB (insAt l i)<;>simp +decide -implicitDefEqProofs only[k88b3,go_sem,e1,e2,e3,set_new,hc,c1])
  (fun h hI=>by
   exact⟨h,hI,by simp +decide -implicitDefEqProofs only[k88b3,go_sem,Int.lt_irrefl,decide_false]⟩) l.length 0 m h (by omega) hm hI
 simp only[show((0:Nat):Int)=0 from rfl] at L
 rw[any_inss] at L
 exact⟨h1,J,L⟩
theorem formed_l4 {vals:FuncId→Bool}{call:CallF}{n:Nat}(a b c:C)(l:List Block)(hl:l.length<n)(hl2:l.length<2^50)(hb:∀x∈l,x.ins.length<n∧x.ins.length<2^50)(I:Heap→Prop)(hp:∀h x,I h→I (h++[x]))(hs:∀b∈l,∀x∈b.ins,∀h,call 109 [.agg (encIns x)] h=some (bool (shapeB x),h))(m:Nat)(hm:l.length<m)(h:Heap)(hI:I h):∃h1,I h1∧Tm.Loop Try.prog vals call n [44,45,46,92,93,94] k88b4 m ⟨[(44,a),(45,b),(46,c),(92,blocks l),(93,int l.length),(94,int 0)],h⟩=some (if l.any badB2=true then(.ret,⟨[(2,bool false)],h1⟩) else(.exit 8,⟨[(44,a),(45,b),(46,c),(92,blocks l),(93,int l.length),(94,int l.length),(95,bool false)],h1⟩)):=by
 obtain⟨h1,J,L⟩:=Loop_any (P:=Try.prog) (vals:=vals) (call:=call) (n:=n) (ks:=[44,45,46,92,93,94]) (K:=k88b4) (id:=8) l.length (fun i=>badB2 (blkAt l i)) (fun i=>[(44,a),(45,b),(46,c),(92,blocks l),(93,int l.length),(94,int i)]) [(2,bool false)] [(44,a),(45,b),(46,c),(92,blocks l),(93,int l.length),(94,int l.length),(95,bool false)] I
  (fun i h hi hI=>by
   have e1:decide ((i:Int)<l.length)=true:=by simp;omega
   have e2:0≤(i:Int)∧(i:Int)<l.length:=by omega
   have e3:=wrap_next (n:=l.length) (i:=i) (by omega) (by omega)
   have hx:=blkAt_mem e2
   have hbl:=hb _ hx
   obtain⟨h1,J1,L1⟩:=formed_l3 (vals:=vals) (call:=call) (n:=n) a b c (blocks l) (int l.length) (int i) (blkAt l i).ins hbl.2 I hp (hs _ hx) n hbl.1 _ (hp _ (.row 0 [inss (blkAt l i).ins]) hI)
   unfold badB2
   cases c1:(blkAt l i).ins.any badI with
   |true=>
    rw[c1,if_pos rfl] at L1
    exact⟨h1,J1,by simp +decide -implicitDefEqProofs only[k88b4,go_sem,e1,e2,e3,set_new,L1]⟩
   |false=>
    rw[c1,if_neg (by decide)] at L1
    exact⟨h1,J1,by simp +decide -implicitDefEqProofs only[k88b4,go_sem,e1,e2,e3,set_new,L1]⟩)
  (fun h hI=>by
   exact⟨h,hI,by simp +decide -implicitDefEqProofs only[k88b4,go_sem,Int.lt_irrefl,decide_false]⟩) l.length 0 m h (by omega) hm hI
 simp only[show((0:Nat):Int)=0 from rfl] at L
 rw[any_blks] at L
 exact⟨h1,J,L⟩
theorem formed_l5 {vals:FuncId→Bool}{call:CallF}{n:Nat}(l:List Tm.Func)(hl:l.length<n)(hl2:l.length<2^50)(hb:∀f∈l,(f.params.length<n∧f.params.length<2^50)∧(f.blocks.length<n∧f.blocks.length<2^50)∧∀x∈f.blocks,x.ins.length<n∧x.ins.length<2^50)(I:Heap→Prop)(hp:∀h x,I h→I (h++[x]))(hs:∀f∈l,∀b∈f.blocks,∀x∈b.ins,∀h,call 109 [.agg (encIns x)] h=some (bool (shapeB x),h))(ht:∀t h,call 108 [int t] h=some (bool (scalB t),h))(m:Nat)(hm:l.length<m)(h:Heap)(hI:I h):∃h1,I h1∧Tm.Loop Try.prog vals call n [44,45,46] k88b5 m ⟨[(44,funcs l),(45,int l.length),(46,int 0)],h⟩=some (if l.any badF=true then(.ret,⟨[(2,bool false)],h1⟩) else(.exit 4,⟨[(44,funcs l),(45,int l.length),(46,int l.length),(47,bool false)],h1⟩)):=by
 obtain⟨h1,J,L⟩:=Loop_any (P:=Try.prog) (vals:=vals) (call:=call) (n:=n) (ks:=[44,45,46]) (K:=k88b5) (id:=4) l.length (fun i=>badF (fnAt l i)) (fun i=>[(44,funcs l),(45,int l.length),(46,int i)]) [(2,bool false)] [(44,funcs l),(45,int l.length),(46,int l.length),(47,bool false)] I
  (fun i h hi hI=>by
   have e1:decide ((i:Int)<l.length)=true:=by simp;omega
   have e2:0≤(i:Int)∧(i:Int)<l.length:=by omega
   have e3:=wrap_next (n:=l.length) (i:=i) (by omega) (by omega)
   have hx:fnAt l i∈l:=getD_mem hi
   obtain⟨hb1,hb2,hb3⟩:=hb _ hx
   have hsx:=hs _ hx
   generalize hf:fnAt l i=f at hx hb1 hb2 hb3 hsx⊢
   have L1:=formed_l2 (vals:=vals) (call:=call) (n:=n) (funcs l) (int l.length) (int i) h.length (str f.name) (ints f.params) (int f.result) (blocks f.blocks) f.out f.params hb1.2 (h++[.row 0 (encFunc f)]) ht (by rw[get_new];rfl) n hb1.1
   obtain⟨h2,J2,L2⟩:=formed_l4 (vals:=vals) (call:=call) (n:=n) (funcs l) (int l.length) (int i) f.blocks hb2.1 hb2.2 hb3 I hp hsx n hb2.1 _ (hp _ (.row 0 (encFunc f)) hI)
   simp only[enc_func] at L1 L2
   unfold badF badO badR badT
   obtain⟨r0,q1⟩:∃q,decide (f.result=0)=q:=⟨_,rfl⟩
   obtain⟨r4,q2⟩:∃q,decide (f.result=4)=q:=⟨_,rfl⟩
   obtain⟨rs,q3⟩:∃q,scalB f.result=q:=⟨_,rfl⟩
   obtain⟨o,q4⟩:∃q,f.out=q:=⟨_,rfl⟩
   rw[q1,q2,q3]
   rw[q4] at L1 L2⊢
   cases hr:((!r0&&!rs)&&(!r4||o)) with
   |true=>
    refine⟨_,hp _ (.row 0 (encFunc f)) hI,?_⟩
    cases r0<;>cases rs<;>cases r4<;>cases o<;>first|(exact absurd hr (by decide))|(simp +decide -implicitDefEqProofs only[k88b5,go_sem,e1,e2,e3,set_new,enc_func,hf,ht,q1,q2,q3,q4,L1,L2])
   |false=>
    cases c1:f.params.any (badP o) with
    |true=>
     rw[c1,if_pos rfl] at L1
     refine⟨_,hp _ (.row 0 (encFunc f)) hI,?_⟩
     cases r0<;>cases rs<;>cases r4<;>cases o<;>first|(exact absurd hr (by decide))|(simp +decide -implicitDefEqProofs only[k88b5,go_sem,e1,e2,e3,set_new,enc_func,hf,ht,q1,q2,q3,q4,L1,L2])
    |false=>
     rw[c1,if_neg (by decide)] at L1
     refine⟨h2,J2,?_⟩
     cases c2:f.blocks.any badB2 with
     |true=>
      rw[c2,if_pos rfl] at L2
      cases r0<;>cases rs<;>cases r4<;>cases o<;>first|(exact absurd hr (by decide))|(simp +decide -implicitDefEqProofs only[k88b5,go_sem,e1,e2,e3,set_new,enc_func,hf,ht,q1,q2,q3,q4,L1,L2])
     |false=>
      rw[c2,if_neg (by decide)] at L2
      cases r0<;>cases rs<;>cases r4<;>cases o<;>first|(exact absurd hr (by decide))|(simp +decide -implicitDefEqProofs only[k88b5,go_sem,e1,e2,e3,set_new,enc_func,hf,ht,q1,q2,q3,q4,L1,L2]))
  (fun h hI=>by
   exact⟨h,hI,by simp +decide -implicitDefEqProofs only[k88b5,go_sem,Int.lt_irrefl,decide_false]⟩) l.length 0 m h (by omega) hm hI
 simp only[show((0:Nat):Int)=0 from rfl] at L
 rw[any_fns] at L
 exact⟨h1,J,L⟩
theorem badT_is (t:Int):badT t=((!decide (t=1))&&(!decide (t=2))):=by
 unfold badT scalB
 by_cases h1:t=1
 ·subst h1;rfl
 ·by_cases h2:t=2
  ·subst h2;rfl
  ·rw[decide_eq_false (show ¬(t=1∨t=2) by omega),decide_eq_false h1,decide_eq_false h2];rfl
theorem badR_is (r:Int):badR r=(decide (r<0)||decide (r>2)):=by
 unfold badR
 rw[badT_is,←decide_not,←decide_not,←decide_not,←Bool.decide_and,←Bool.decide_and,←Bool.decide_or]
 exact decide_eq_decide.2 (by omega)
theorem badO_is (o:Bool)(r:Int):badO o r=(((decide (r<0)||decide (r>4))||decide (r=3))||(o&&decide (r>2))):=by
 unfold badO
 rw[badR_is]
 cases o with
 |true=>simp only[Bool.or_true,Bool.and_true,Bool.true_and];rw[←Bool.decide_or,←Bool.decide_or,←Bool.decide_or,←Bool.decide_or];exact decide_eq_decide.2 (by omega)
 |false=>simp only[Bool.or_false,Bool.false_and];rw[←decide_not,←Bool.decide_or,←Bool.decide_or,←Bool.decide_or,←Bool.decide_and];exact decide_eq_decide.2 (by omega)
theorem badP_is (o:Bool)(t:Int):badP o t=((decide (t<1)||decide (t>4))||(o&&decide (t>2))):=by
 unfold badP
 rw[badT_is]
 cases o with
 |true=>simp only[Bool.true_and];rw[←decide_not,←decide_not,←Bool.decide_and,←Bool.decide_or,←Bool.decide_or,←Bool.decide_or];exact decide_eq_decide.2 (by omega)
 |false=>rfl
theorem forms_l0 {vals:FuncId→Bool}{call:CallF}{n:Nat}(a b:C)(p:Nat)(u v:C)(l:List Int)(hl:l.length<2^50)(h:Heap)(h0:h[p]?=some (.row 0 [u,ints l,v]))(m:Nat)(hm:l.length<m):Tm.Loop Try.prog vals call n [1,3,4,5] k80b0 m ⟨[(1,a),(3,b),(4,.op p 0),(5,int 0)],h⟩=some (if l.any badT=true then(.ret,⟨[(2,bool false)],h⟩) else(.exit 2,⟨[(1,a),(3,b),(4,.op p 0),(5,int l.length),(35,bool false)],h⟩)):=by
 obtain⟨h1,e,L⟩:=Loop_any (P:=Try.prog) (vals:=vals) (call:=call) (n:=n) (ks:=[1,3,4,5]) (K:=k80b0) (id:=2) l.length (fun i=>badT (rd l i)) (fun i=>[(1,a),(3,b),(4,.op p 0),(5,int i)]) [(2,bool false)] [(1,a),(3,b),(4,.op p 0),(5,int l.length),(35,bool false)] (fun g=>g=h)
  (fun i g hi hg=>⟨h,rfl,by
   rw[hg]
   have e1:decide ((i:Int)<l.length)=true:=by simp;omega
   have e2:0≤(i:Int)∧(i:Int)<l.length:=by omega
   have e3:=wrap_next (n:=l.length) (i:=i) (by omega) (by omega)
   rw[badT_is]
   cases c1:decide (rd l i=1)<;>cases c2:decide (rd l i=2)<;>simp +decide -implicitDefEqProofs only[k80b0,go_sem,e1,e2,e3,set_new,c1,c2,h0]⟩)
  (fun g hg=>⟨h,rfl,by rw[hg];simp +decide -implicitDefEqProofs only[k80b0,go_sem,Int.lt_irrefl,decide_false,h0]⟩) l.length 0 m h (by omega) hm rfl
 rw[e] at L
 simp only[show((0:Nat):Int)=0 from rfl] at L
 rw[any_ints] at L
 exact L
theorem forms_l2 {vals:FuncId→Bool}{call:CallF}{n:Nat}(a b:C)(p:Nat)(u w z:C)(o:Bool)(l:List Int)(hl:l.length<2^50)(h:Heap)(h0:h[p]?=some (.row 0 [u,bool o,ints l,w,z]))(m:Nat)(hm:l.length<m):Tm.Loop Try.prog vals call n [1,6,7,8] k80b2 m ⟨[(1,a),(6,b),(7,.op p 0),(8,int 0)],h⟩=some (if l.any (badP o)=true then(.ret,⟨[(2,bool false)],h⟩) else(.exit 6,⟨[(1,a),(6,b),(7,.op p 0),(8,int l.length),(90,bool false)],h⟩)):=by
 obtain⟨h1,e,L⟩:=Loop_any (P:=Try.prog) (vals:=vals) (call:=call) (n:=n) (ks:=[1,6,7,8]) (K:=k80b2) (id:=6) l.length (fun i=>badP o (rd l i)) (fun i=>[(1,a),(6,b),(7,.op p 0),(8,int i)]) [(2,bool false)] [(1,a),(6,b),(7,.op p 0),(8,int l.length),(90,bool false)] (fun g=>g=h)
  (fun i g hi hg=>⟨h,rfl,by
   rw[hg]
   have e1:decide ((i:Int)<l.length)=true:=by simp;omega
   have e2:0≤(i:Int)∧(i:Int)<l.length:=by omega
   have e3:=wrap_next (n:=l.length) (i:=i) (by omega) (by omega)
   rw[badP_is]
   cases c1:decide (rd l i<1)<;>cases c2:decide (rd l i>4)<;>cases c3:o<;>cases c4:decide (rd l i>2)<;>simp +decide -implicitDefEqProofs only[k80b2,go_sem,e1,e2,e3,set_new,c1,c2,c3,c4,h0]⟩)
  (fun g hg=>⟨h,rfl,by rw[hg];simp +decide -implicitDefEqProofs only[k80b2,go_sem,Int.lt_irrefl,decide_false,h0]⟩) l.length 0 m h (by omega) hm rfl
 rw[e] at L
 simp only[show((0:Nat):Int)=0 from rfl] at L
 rw[any_ints] at L
 exact L
theorem forms_l3 {vals:FuncId→Bool}{call:CallF}{n:Nat}(a b:C)(p:Nat)(u w z x:C)(l:List Block)(q:Int)(hq:0≤q∧q<l.length)(hl:(blkAt l q).ins.length<2^50)(h:Heap)(h0:h[p]?=some (.row 0 [u,w,z,x,blocks l]))(hs:∀x∈(blkAt l q).ins,∀h,call 103 [.agg (encIns x)] h=some (bool (shapeB x),h))(m:Nat)(hm:(blkAt l q).ins.length<m):Tm.Loop Try.prog vals call n [1,6,7,9,10] k80b3 m ⟨[(1,a),(6,b),(7,.op p 0),(9,int q),(10,int 0)],h⟩=some (if (blkAt l q).ins.any badI=true then(.ret,⟨[(2,bool false)],h⟩) else(.exit 10,⟨[(1,a),(6,b),(7,.op p 0),(9,int q),(10,int (blkAt l q).ins.length),(134,bool false)],h⟩)):=by
 obtain⟨h1,e,L⟩:=Loop_any (P:=Try.prog) (vals:=vals) (call:=call) (n:=n) (ks:=[1,6,7,9,10]) (K:=k80b3) (id:=10) (blkAt l q).ins.length (fun i=>badI (insAt (blkAt l q).ins i)) (fun i=>[(1,a),(6,b),(7,.op p 0),(9,int q),(10,int i)]) [(2,bool false)] [(1,a),(6,b),(7,.op p 0),(9,int q),(10,int (blkAt l q).ins.length),(134,bool false)] (fun g=>g=h)
  (fun i g hi hg=>⟨h,rfl,by
   rw[hg]
   have e1:decide ((i:Int)<(blkAt l q).ins.length)=true:=by simp;omega
   have e2:0≤(i:Int)∧(i:Int)<(blkAt l q).ins.length:=by omega
   have e3:=wrap_next (n:=(blkAt l q).ins.length) (i:=i) (by omega) (by omega)
   have hc:=fun h=>hs (insAt (blkAt l q).ins i) (insAt_mem e2) h
   unfold badI
   simp only[encIns] at hc⊢
   cases c1:shapeB (insAt (blkAt l q).ins i)<;>simp +decide -implicitDefEqProofs only[k80b3,go_sem,e1,e2,e3,set_new,c1,h0,hc,hq]⟩)
  (fun g hg=>⟨h,rfl,by rw[hg];simp +decide -implicitDefEqProofs only[k80b3,go_sem,Int.lt_irrefl,decide_false,h0,hq]⟩) (blkAt l q).ins.length 0 m h (by omega) hm rfl
 rw[e] at L
 simp only[show((0:Nat):Int)=0 from rfl] at L
 rw[any_inss] at L
 exact L
theorem forms_l4 {vals:FuncId→Bool}{call:CallF}{n:Nat}(a b:C)(p:Nat)(u w z x:C)(l:List Block)(hl2:l.length<2^50)(hb:∀x∈l,x.ins.length<n∧x.ins.length<2^50)(I:Heap→Prop)(h0:∀h,I h→h[p]?=some (.row 0 [u,w,z,x,blocks l]))(hs:∀b∈l,∀x∈b.ins,∀h,call 103 [.agg (encIns x)] h=some (bool (shapeB x),h))(m:Nat)(hm:l.length<m)(h:Heap)(hI:I h):∃h1,I h1∧Tm.Loop Try.prog vals call n [1,6,7,9] k80b4 m ⟨[(1,a),(6,b),(7,.op p 0),(9,int 0)],h⟩=some (if l.any badB2=true then(.ret,⟨[(2,bool false)],h1⟩) else(.exit 8,⟨[(1,a),(6,b),(7,.op p 0),(9,int l.length),(123,bool false)],h1⟩)):=by
 obtain⟨h1,J,L⟩:=Loop_any (P:=Try.prog) (vals:=vals) (call:=call) (n:=n) (ks:=[1,6,7,9]) (K:=k80b4) (id:=8) l.length (fun i=>badB2 (blkAt l i)) (fun i=>[(1,a),(6,b),(7,.op p 0),(9,int i)]) [(2,bool false)] [(1,a),(6,b),(7,.op p 0),(9,int l.length),(123,bool false)] I
  (fun i h hi hI=>by
   have e1:decide ((i:Int)<l.length)=true:=by simp;omega
   have e2:0≤(i:Int)∧(i:Int)<l.length:=by omega
   have e3:=wrap_next (n:=l.length) (i:=i) (by omega) (by omega)
   have hx:=blkAt_mem e2
   have hbl:=hb _ hx
   have h0:=h0 h hI
   have L1:=forms_l3 (vals:=vals) (call:=call) (n:=n) a b p u w z x l i e2 hbl.2 h h0 (hs _ hx) n hbl.1
   unfold badB2
   refine⟨h,hI,?_⟩
   cases c1:(blkAt l i).ins.any badI with
   |true=>
    rw[c1,if_pos rfl] at L1
    simp +decide -implicitDefEqProofs only[k80b4,go_sem,e1,e2,e3,set_new,h0,L1]
   |false=>
    rw[c1,if_neg (by decide)] at L1
    simp +decide -implicitDefEqProofs only[k80b4,go_sem,e1,e2,e3,set_new,h0,L1])
  (fun h hI=>by
   have h0:=h0 h hI
   exact⟨h,hI,by simp +decide -implicitDefEqProofs only[k80b4,go_sem,Int.lt_irrefl,decide_false,h0]⟩) l.length 0 m h (by omega) hm hI
 simp only[show((0:Nat):Int)=0 from rfl] at L
 rw[any_blks] at L
 exact⟨h1,J,L⟩
theorem forms_l5 {vals:FuncId→Bool}{call:CallF}{n:Nat}(u v w:C)(l:List Tm.Func)(hl2:l.length<2^50)(hb:∀f∈l,(f.params.length<n∧f.params.length<2^50)∧(f.blocks.length<n∧f.blocks.length<2^50)∧∀x∈f.blocks,x.ins.length<n∧x.ins.length<2^50)(I:Heap→Prop)(hp:∀h x,I h→I (h++[x]))(hg:∀h,I h→h[0]?=some (.row 0 [u,v,w,funcs l]))(hs:∀f∈l,∀b∈f.blocks,∀x∈b.ins,∀h,call 103 [.agg (encIns x)] h=some (bool (shapeB x),h))(m:Nat)(hm:l.length<m)(h:Heap)(hI:I h):∃h1,I h1∧Tm.Loop Try.prog vals call n [1,6] k80b5 m ⟨[(1,.op 0 0),(6,int 0)],h⟩=some (if l.any badF=true then(.ret,⟨[(2,bool false)],h1⟩) else(.exit 4,⟨[(1,.op 0 0),(6,int l.length),(56,bool false)],h1⟩)):=by
 obtain⟨h1,J,L⟩:=Loop_any (P:=Try.prog) (vals:=vals) (call:=call) (n:=n) (ks:=[1,6]) (K:=k80b5) (id:=4) l.length (fun i=>badF (fnAt l i)) (fun i=>[(1,.op 0 0),(6,int i)]) [(2,bool false)] [(1,.op 0 0),(6,int l.length),(56,bool false)] I
  (fun i h hi hI=>by
   have e1:decide ((i:Int)<l.length)=true:=by simp;omega
   have e2:0≤(i:Int)∧(i:Int)<l.length:=by omega
   have e3:=wrap_next (n:=l.length) (i:=i) (by omega) (by omega)
   have hx:fnAt l i∈l:=getD_mem hi
   obtain⟨hb1,hb2,hb3⟩:=hb _ hx
   have hsx:=hs _ hx
   have g0:=hg h hI
   have I1:=hp _ (.row 0 (encFunc (fnAt l i))) hI
   have g1:=hg _ I1
   generalize hf:fnAt l i=f at hx hb1 hb2 hb3 hsx I1 g1⊢
   have L1:=forms_l2 (vals:=vals) (call:=call) (n:=n) (.op 0 0) (int i) h.length (str f.name) (int f.result) (blocks f.blocks) f.out f.params hb1.2 (h++[.row 0 (encFunc f)]) (by rw[get_new];rfl) n hb1.1
   obtain⟨h2,e2',L2⟩:=forms_l4 (vals:=vals) (call:=call) (n:=n) (.op 0 0) (int i) h.length (str f.name) (bool f.out) (ints f.params) (int f.result) f.blocks hb2.2 hb3 (fun g=>g=h++[.row 0 (encFunc f)]) (fun g hg=>by rw[hg,get_new];rfl) hsx n hb2.1 _ rfl
   rw[e2'] at L2
   simp only[enc_func] at L1 L2 g1
   unfold badF
   rw[badO_is]
   obtain⟨r1,q1⟩:∃q,decide (f.result<0)=q:=⟨_,rfl⟩
   obtain⟨r2,q2⟩:∃q,decide (f.result>4)=q:=⟨_,rfl⟩
   obtain⟨r3,q3⟩:∃q,decide (f.result=3)=q:=⟨_,rfl⟩
   obtain⟨r4,q5⟩:∃q,decide (f.result>2)=q:=⟨_,rfl⟩
   obtain⟨o,q4⟩:∃q,f.out=q:=⟨_,rfl⟩
   rw[q1,q2,q3,q5]
   rw[q4] at L1 L2⊢
   refine⟨_,I1,?_⟩
   cases hr:(((r1||r2)||r3)||(o&&r4)) with
   |true=>
    cases r1<;>cases r2<;>cases r3<;>cases r4<;>cases o<;>first|(exact absurd hr (by decide))|(simp +decide -implicitDefEqProofs only[k80b5,go_sem,e1,e2,e3,set_new,g0,enc_func,hf,q1,q2,q3,q4,q5,L1,L2])
   |false=>
    cases c1:f.params.any (badP o) with
    |true=>
     rw[c1,if_pos rfl] at L1
     cases r1<;>cases r2<;>cases r3<;>cases r4<;>cases o<;>first|(exact absurd hr (by decide))|(simp +decide -implicitDefEqProofs only[k80b5,go_sem,e1,e2,e3,set_new,g0,enc_func,hf,q1,q2,q3,q4,q5,L1,L2])
    |false=>
     rw[c1,if_neg (by decide)] at L1
     cases c2:f.blocks.any badB2 with
     |true=>
      rw[c2,if_pos rfl] at L2
      cases r1<;>cases r2<;>cases r3<;>cases r4<;>cases o<;>first|(exact absurd hr (by decide))|(simp +decide -implicitDefEqProofs only[k80b5,go_sem,e1,e2,e3,set_new,g0,enc_func,hf,q1,q2,q3,q4,q5,L1,L2])
     |false=>
      rw[c2,if_neg (by decide)] at L2
      cases r1<;>cases r2<;>cases r3<;>cases r4<;>cases o<;>first|(exact absurd hr (by decide))|(simp +decide -implicitDefEqProofs only[k80b5,go_sem,e1,e2,e3,set_new,g0,enc_func,hf,q1,q2,q3,q4,q5,L1,L2]))
  (fun h hI=>by
   have g0:=hg h hI
   exact⟨h,hI,by simp +decide -implicitDefEqProofs only[k80b5,go_sem,Int.lt_irrefl,decide_false,g0]⟩) l.length 0 m h (by omega) hm hI
 simp only[show((0:Nat):Int)=0 from rfl] at L
 rw[any_fns] at L
 exact⟨h1,J,L⟩
theorem forms_l1 {vals:FuncId→Bool}{call:CallF}{n:Nat}(u v w:C)(l:List Extern)(hl2:l.length<2^50)(hb:∀f∈l,f.params.length<n∧f.params.length<2^50)(I:Heap→Prop)(hp:∀h x,I h→I (h++[x]))(hg:∀h,I h→h[0]?=some (.row 0 [externs l,u,v,w]))(m:Nat)(hm:l.length<m)(h:Heap)(hI:I h):∃h1,I h1∧Tm.Loop Try.prog vals call n [1,3] k80b1 m ⟨[(1,.op 0 0),(3,int 0)],h⟩=some (if l.any badX=true then(.ret,⟨[(2,bool false)],h1⟩) else(.exit 0,⟨[(1,.op 0 0),(3,int l.length),(15,bool false)],h1⟩)):=by
 obtain⟨h1,J,L⟩:=Loop_any (P:=Try.prog) (vals:=vals) (call:=call) (n:=n) (ks:=[1,3]) (K:=k80b1) (id:=0) l.length (fun i=>badX (extAt l i)) (fun i=>[(1,.op 0 0),(3,int i)]) [(2,bool false)] [(1,.op 0 0),(3,int l.length),(15,bool false)] I
  (fun i h hi hI=>by
   have e1:decide ((i:Int)<l.length)=true:=by simp;omega
   have e2:0≤(i:Int)∧(i:Int)<l.length:=by omega
   have e3:=wrap_next (n:=l.length) (i:=i) (by omega) (by omega)
   have hx:extAt l i∈l:=getD_mem hi
   have hb1:=hb _ hx
   have g0:=hg h hI
   have I1:=hp _ (.row 0 (encExtern (extAt l i))) hI
   have g1:=hg _ I1
   generalize hf:extAt l i=f at hx hb1 I1 g1⊢
   have L1:=forms_l0 (vals:=vals) (call:=call) (n:=n) (.op 0 0) (int i) h.length (str f.name) (int f.result) f.params hb1.2 (h++[.row 0 (encExtern f)]) (by rw[get_new];rfl) n hb1.1
   simp only[encExtern] at L1 g1
   unfold badX
   rw[badR_is]
   obtain⟨r1,q1⟩:∃q,decide (f.result<0)=q:=⟨_,rfl⟩
   obtain⟨r2,q2⟩:∃q,decide (f.result>2)=q:=⟨_,rfl⟩
   rw[q1,q2]
   refine⟨_,I1,?_⟩
   cases c1:f.params.any badT with
   |true=>
    rw[c1,if_pos rfl] at L1
    cases r1<;>cases r2<;>simp +decide -implicitDefEqProofs only[k80b1,go_sem,e1,e2,e3,set_new,g0,g1,encExtern,hf,q1,q2,L1]
   |false=>
    rw[c1,if_neg (by decide)] at L1
    cases r1<;>cases r2<;>simp +decide -implicitDefEqProofs only[k80b1,go_sem,e1,e2,e3,set_new,g0,g1,encExtern,hf,q1,q2,L1])
  (fun h hI=>by
   have g0:=hg h hI
   exact⟨h,hI,by simp +decide -implicitDefEqProofs only[k80b1,go_sem,Int.lt_irrefl,decide_false,g0]⟩) l.length 0 m h (by omega) hm hI
 simp only[show((0:Nat):Int)=0 from rfl] at L
 rw[any_exts] at L
 exact⟨h1,J,L⟩
theorem formed_l1 {vals:FuncId→Bool}{call:CallF}{n:Nat}(a:C)(l:List Extern)(hl2:l.length<2^50)(hb:∀f∈l,f.params.length<n∧f.params.length<2^50)(I:Heap→Prop)(hp:∀h x,I h→I (h++[x]))(ht:∀t h,call 108 [int t] h=some (bool (scalB t),h))(m:Nat)(hm:l.length<m)(h:Heap)(hI:I h):∃h1,I h1∧Tm.Loop Try.prog vals call n [1,16,17,18] k88b1 m ⟨[(1,a),(16,externs l),(17,int l.length),(18,int 0)],h⟩=some (if l.any badX=true then(.ret,⟨[(2,bool false)],h1⟩) else(.exit 0,⟨[(1,a),(16,externs l),(17,int l.length),(18,int l.length),(19,bool false)],h1⟩)):=by
 obtain⟨h1,J,L⟩:=Loop_any (P:=Try.prog) (vals:=vals) (call:=call) (n:=n) (ks:=[1,16,17,18]) (K:=k88b1) (id:=0) l.length (fun i=>badX (extAt l i)) (fun i=>[(1,a),(16,externs l),(17,int l.length),(18,int i)]) [(2,bool false)] [(1,a),(16,externs l),(17,int l.length),(18,int l.length),(19,bool false)] I
  (fun i h hi hI=>by
   have e1:decide ((i:Int)<l.length)=true:=by simp;omega
   have e2:0≤(i:Int)∧(i:Int)<l.length:=by omega
   have e3:=wrap_next (n:=l.length) (i:=i) (by omega) (by omega)
   have hx:extAt l i∈l:=getD_mem hi
   have hb1:=hb _ hx
   have I1:=hp _ (.row 0 (encExtern (extAt l i))) hI
   generalize hf:extAt l i=f at hx hb1 I1⊢
   have L1:=formed_l0 (vals:=vals) (call:=call) (n:=n) a (.op h.length 0) (externs l) (int l.length) (int i) f.params hb1.2 (h++[.row 0 (encExtern f)]) ht n hb1.1
   simp only[encExtern] at L1
   unfold badX badR badT
   obtain⟨r1,q1⟩:∃q,decide (f.result=0)=q:=⟨_,rfl⟩
   obtain⟨r2,q2⟩:∃q,scalB f.result=q:=⟨_,rfl⟩
   rw[q1,q2]
   refine⟨_,I1,?_⟩
   change _=some (if (f.params.any badT||_)=true then _ else _)
   cases c1:f.params.any badT with
   |true=>
    rw[c1,if_pos rfl] at L1
    cases r1<;>cases r2<;>simp +decide -implicitDefEqProofs only[k88b1,go_sem,e1,e2,e3,set_new,encExtern,hf,ht,q1,q2,L1]
   |false=>
    rw[c1,if_neg (by decide)] at L1
    cases r1<;>cases r2<;>simp +decide -implicitDefEqProofs only[k88b1,go_sem,e1,e2,e3,set_new,encExtern,hf,ht,q1,q2,L1])
  (fun h hI=>by
   exact⟨h,hI,by simp +decide -implicitDefEqProofs only[k88b1,go_sem,Int.lt_irrefl,decide_false]⟩) l.length 0 m h (by omega) hm hI
 simp only[show((0:Nat):Int)=0 from rfl] at L
 rw[any_exts] at L
 exact⟨h1,J,L⟩
theorem view_ins (h:Heap)(n:Nat)(x:Ins):view false h (n+2) (.agg (encIns x))=some (.agg (encIns x)):=by simp[encIns,go_sem]
theorem wformed_runs (m:Tm.Module)(F:FineM m):Runs Try.prog tab 200 88 [.agg (encModule m)] (bool (formedB m)):=by
 refine Runs.by (rs:=[.tmp 2]) (N:=111) rfl Try.func88 rfl rfl (by simp) fun k hk=>?_
 have b1:=F.externs
 have b4:=F.funcs
 have hs:∀f∈m.funcs,∀b∈f.blocks,∀x∈b.ins,∀h,callAt Try.prog tab k 109 [.agg (encIns x)] h=some (bool (shapeB x),h):=fun f hf b hb x hx h=>wshaped_runs x (by have:=(F.fn f hf).1.into b hb x hx;omega) k (by omega) _ h (by simp only[mapC_cons,mapC_nil,depth,view_ins,Option.bind_some])
 have ht:∀t h,callAt Try.prog tab k 108 [int t] h=some (bool (scalB t),h):=fun t h=>scalar_runs t k (by omega) _ h (by simp only[mapC_cons,mapC_nil,depth,view_int,Option.bind_some])
 generalize hc:callAt Try.prog tab k=call at hs ht
 generalize hv:valsOf tab=vals
 rw[enc_module]
 generalize hI:Has 0 (.row 0 [externs m.externs,globals m.globals,tables m.tables,funcs m.funcs])=I
 have hp:∀h x,I h→I (h++[x]):=by rw[←hI];exact fun h x H=>H.push
 have hg:∀h,I h→h[0]?=some (.row 0 [externs m.externs,globals m.globals,tables m.tables,funcs m.funcs]):=by rw[←hI];exact fun h H=>H
 have i0:I [.row 0 [externs m.externs,globals m.globals,tables m.tables,funcs m.funcs]]:=by rw[←hI];rfl
 have hbx:∀f∈m.externs,f.params.length<k∧f.params.length<2^50:=fun x hx=>by have:=(F.ext x hx).2;omega
 have hbf:∀f∈m.funcs,(f.params.length<k∧f.params.length<2^50)∧(f.blocks.length<k∧f.blocks.length<2^50)∧∀x∈f.blocks,x.ins.length<k∧x.ins.length<2^50:=fun f hf=>by
  have:=(F.fn f hf).2.2;have:=(F.fn f hf).1.blocks
  exact⟨by omega,by omega,fun b hb=>by have:=(F.fn f hf).1.ins b hb;omega⟩
 obtain⟨h1,I1,L1⟩:=formed_l1 (vals:=vals) (call:=call) (n:=k) (.op 0 0) m.externs (by omega) hbx I hp ht k (by omega) _ i0
 obtain⟨h2,I2,L2⟩:=formed_l5 (vals:=vals) (call:=call) (n:=k) m.funcs (by omega) (by omega) hbf I hp hs ht k (by omega) _ I1
 have g1:=hg h1 I1
 have g2:=hg h2 I2
 unfold formedB
 cases x1:m.externs.any badX with
 |true=>
  rw[x1,if_pos rfl] at L1
  simp +decide -implicitDefEqProofs only[k88,go_sem,L1];exact⟨_,_,rfl,rfl⟩
 |false=>
  rw[x1,if_neg (by decide)] at L1
  cases x2:m.funcs.any badF with
  |true=>
   rw[x2,if_pos rfl] at L2
   simp +decide -implicitDefEqProofs only[k88,go_sem,L1,L2,g1,g2];exact⟨_,_,rfl,rfl⟩
  |false=>
   rw[x2,if_neg (by decide)] at L2
   simp +decide -implicitDefEqProofs only[k88,go_sem,L1,L2,g1,g2];exact⟨_,_,rfl,rfl⟩
theorem rforms_runs (m:Tm.Module)(F:FineM m):Runs Try.prog tab 200 80 [.agg (encModule m)] (bool (formedB m)):=by
 refine Runs.by (rs:=[.tmp 2]) (N:=148) rfl Try.func80 rfl rfl (by simp) fun k hk=>?_
 have b1:=F.externs
 have b4:=F.funcs
 have hs:∀f∈m.funcs,∀b∈f.blocks,∀x∈b.ins,∀h,callAt Try.prog tab k 103 [.agg (encIns x)] h=some (bool (shapeB x),h):=fun f hf b hb x hx h=>rform_runs x (by have:=(F.fn f hf).1.into b hb x hx;omega) k (by omega) _ h (by simp only[mapC_cons,mapC_nil,depth,view_ins,Option.bind_some])
 have ht:∀t h,callAt Try.prog tab k 108 [int t] h=some (bool (scalB t),h):=fun t h=>scalar_runs t k (by omega) _ h (by simp only[mapC_cons,mapC_nil,depth,view_int,Option.bind_some])
 generalize hc:callAt Try.prog tab k=call at hs ht
 generalize hv:valsOf tab=vals
 rw[enc_module]
 generalize hI:Has 0 (.row 0 [externs m.externs,globals m.globals,tables m.tables,funcs m.funcs])=I
 have hp:∀h x,I h→I (h++[x]):=by rw[←hI];exact fun h x H=>H.push
 have hg:∀h,I h→h[0]?=some (.row 0 [externs m.externs,globals m.globals,tables m.tables,funcs m.funcs]):=by rw[←hI];exact fun h H=>H
 have i0:I [.row 0 [externs m.externs,globals m.globals,tables m.tables,funcs m.funcs]]:=by rw[←hI];rfl
 have hbx:∀f∈m.externs,f.params.length<k∧f.params.length<2^50:=fun x hx=>by have:=(F.ext x hx).2;omega
 have hbf:∀f∈m.funcs,(f.params.length<k∧f.params.length<2^50)∧(f.blocks.length<k∧f.blocks.length<2^50)∧∀x∈f.blocks,x.ins.length<k∧x.ins.length<2^50:=fun f hf=>by
  have:=(F.fn f hf).2.2;have:=(F.fn f hf).1.blocks
  exact⟨by omega,by omega,fun b hb=>by have:=(F.fn f hf).1.ins b hb;omega⟩
 obtain⟨h1,I1,L1⟩:=forms_l1 (vals:=vals) (call:=call) (n:=k) _ _ _ m.externs (by omega) hbx I hp hg k (by omega) _ i0
 obtain⟨h2,I2,L2⟩:=forms_l5 (vals:=vals) (call:=call) (n:=k) _ _ _ m.funcs (by omega) hbf I hp hg hs k (by omega) _ I1
 have g1:=hg h1 I1
 have g2:=hg h2 I2
 unfold formedB
 cases x1:m.externs.any badX with
 |true=>
  rw[x1,if_pos rfl] at L1
  simp +decide -implicitDefEqProofs only[k80,go_sem,L1];exact⟨_,_,rfl,rfl⟩
 |false=>
  rw[x1,if_neg (by decide)] at L1
  cases x2:m.funcs.any badF with
  |true=>
   rw[x2,if_pos rfl] at L2
   simp +decide -implicitDefEqProofs only[k80,go_sem,L1,L2,g1,g2];exact⟨_,_,rfl,rfl⟩
  |false=>
   rw[x2,if_neg (by decide)] at L2
   simp +decide -implicitDefEqProofs only[k80,go_sem,L1,L2,g1,g2];exact⟨_,_,rfl,rfl⟩
theorem ints_differ {a b:List Int}(hl:a.length=b.length):(!(List.range' 0 a.length).any fun i=>!decide (rd a i=rd b i))=decide (a=b):=by
 by_cases e:a=b
 ·subst e
  rw[decide_eq_true rfl]
  have:((List.range' 0 a.length).any fun i=>!decide (rd a i=rd a i))=false:=by
   rw[List.any_eq_false];intro x _;simp
  rw[this];rfl
 ·rw[decide_eq_false e]
  have:((List.range' 0 a.length).any fun i=>!decide (rd a i=rd b i))=true:=by
   refine Classical.byContradiction fun h=>e ?_
   rw[Bool.not_eq_true,List.any_eq_false] at h
   refine List.ext_getElem hl fun j h1 h2=>?_
   have:=h j (by simp;omega)
   simpa[rd,List.getD_eq_getElem?_getD,List.getElem?_eq_getElem h1,List.getElem?_eq_getElem h2] using this
  rw[this];rfl
theorem requal_loop {vals:FuncId→Bool}{call:CallF}{n:Nat}(a b:List Int)(hl:a.length=b.length)(hx:a.length<2^50)(h:Heap)(m:Nat)(hm:a.length<m):Tm.Loop Try.prog vals call n [0,1,5] k18b0 m ⟨[(0,ints a),(1,ints b),(5,int 0)],h⟩=some (if decide (a=b)=true then(.exit 0,⟨[(0,ints a),(1,ints b),(5,int a.length),(14,bool false)],h⟩) else(.ret,⟨[(4,bool false)],h⟩)):=by
 obtain⟨h1,e,L⟩:=Loop_any (P:=Try.prog) (vals:=vals) (call:=call) (n:=n) (ks:=[0,1,5]) (K:=k18b0) (id:=0) a.length (fun i=>!decide (rd a i=rd b i)) (fun i=>[(0,ints a),(1,ints b),(5,int i)]) [(4,bool false)] [(0,ints a),(1,ints b),(5,int a.length),(14,bool false)] (fun g=>g=h)
  (fun i g hi hg=>⟨h,rfl,by
   rw[hg]
   have e1:decide ((i:Int)<a.length)=true:=by simp;omega
   have e2:0≤(i:Int)∧(i:Int)<a.length:=by omega
   have e2b:0≤(i:Int)∧(i:Int)<b.length:=by omega
   have e3:=wrap_next (n:=a.length) (i:=i) (by omega) (by omega)
   cases c1:decide (rd a i=rd b i)<;>simp +decide -implicitDefEqProofs only[k18b0,go_sem,e1,e2,e2b,e3,c1]⟩)
  (fun g hg=>⟨h,rfl,by rw[hg];simp +decide -implicitDefEqProofs only[k18b0,go_sem,Int.lt_irrefl,decide_false]⟩) a.length 0 m h (by omega) hm rfl
 rw[e] at L
 simp only[show((0:Nat):Int)=0 from rfl] at L
 rw[L,←ints_differ hl]
 cases (List.range' 0 a.length).any fun i=>!decide (rd a i=rd b i)<;>rfl
theorem requal_runs (a b:List Int)(hx:a.length<2^50):Runs Try.prog tab (a.length+3) 18 [ints a,ints b] (bool (decide (a=b))):=by
 refine Runs.by (rs:=[.tmp 4]) (N:=26) rfl Try.func18 rfl rfl (by simp) fun k hk=>?_
 by_cases hl:a.length=b.length
 ·have L:=requal_loop (vals:=valsOf tab) (call:=callAt Try.prog tab k) (n:=k) a b hl hx [] k (by omega)
  have d:decide ((a.length:Int)=b.length)=true:=by simp[hl]
  cases c:decide (a=b) with
  |true=>
   rw[c,if_pos rfl] at L
   simp +decide -implicitDefEqProofs only[k18,go_sem,d,L];exact⟨_,_,rfl,rfl⟩
  |false=>
   rw[c,if_neg (by decide)] at L
   simp +decide -implicitDefEqProofs only[k18,go_sem,d,L];exact⟨_,_,rfl,rfl⟩
 ·have d:decide ((a.length:Int)=b.length)=false:=by simp;omega
  rw[decide_eq_false (fun e=>hl (by rw[e]))]
  simp +decide -implicitDefEqProofs only[k18,go_sem,d];exact⟨_,_,rfl,rfl⟩
theorem wequal_loop {vals:FuncId→Bool}{call:CallF}{n:Nat}(a b:List Int)(hl:a.length=b.length)(hx:a.length<2^50)(h:Heap)(m:Nat)(hm:a.length<m):Tm.Loop Try.prog vals call n [0,1,12,13] k111b0 m ⟨[(0,ints a),(1,ints b),(12,int a.length),(13,int 0)],h⟩=some (if decide (a=b)=true then(.exit 0,⟨[(0,ints a),(1,ints b),(12,int a.length),(13,int a.length),(14,bool false)],h⟩) else(.ret,⟨[(4,bool false)],h⟩)):=by
 obtain⟨h1,e,L⟩:=Loop_any (P:=Try.prog) (vals:=vals) (call:=call) (n:=n) (ks:=[0,1,12,13]) (K:=k111b0) (id:=0) a.length (fun i=>!decide (rd a i=rd b i)) (fun i=>[(0,ints a),(1,ints b),(12,int a.length),(13,int i)]) [(4,bool false)] [(0,ints a),(1,ints b),(12,int a.length),(13,int a.length),(14,bool false)] (fun g=>g=h)
  (fun i g hi hg=>⟨h,rfl,by
   rw[hg]
   have e1:decide ((i:Int)<a.length)=true:=by simp;omega
   have e2:0≤(i:Int)∧(i:Int)<a.length:=by omega
   have e2b:0≤(i:Int)∧(i:Int)<b.length:=by omega
   have e3:=wrap_next (n:=a.length) (i:=i) (by omega) (by omega)
   cases c1:decide (rd a i=rd b i)<;>simp +decide -implicitDefEqProofs only[k111b0,go_sem,e1,e2,e2b,e3,c1]⟩)
  (fun g hg=>⟨h,rfl,by rw[hg];simp +decide -implicitDefEqProofs only[k111b0,go_sem,Int.lt_irrefl,decide_false]⟩) a.length 0 m h (by omega) hm rfl
 rw[e] at L
 simp only[show((0:Nat):Int)=0 from rfl] at L
 rw[L,←ints_differ hl]
 cases (List.range' 0 a.length).any fun i=>!decide (rd a i=rd b i)<;>rfl
theorem wequal_runs (a b:List Int)(hx:a.length<2^50):Runs Try.prog tab (a.length+3) 111 [ints a,ints b] (bool (decide (a=b))):=by
 refine Runs.by (rs:=[.tmp 4]) (N:=26) rfl Try.func111 rfl rfl (by simp) fun k hk=>?_
 by_cases hl:a.length=b.length
 ·have L:=wequal_loop (vals:=valsOf tab) (call:=callAt Try.prog tab k) (n:=k) a b hl hx [] k (by omega)
  have d:decide ((a.length:Int)=b.length)=true:=by simp[hl]
  cases c:decide (a=b) with
  |true=>
   rw[c,if_pos rfl] at L
   simp +decide -implicitDefEqProofs only[k111,go_sem,d,L];exact⟨_,_,rfl,rfl⟩
  |false=>
   rw[c,if_neg (by decide)] at L
   simp +decide -implicitDefEqProofs only[k111,go_sem,d,L];exact⟨_,_,rfl,rfl⟩
 ·have d:decide ((a.length:Int)=b.length)=false:=by simp;omega
  rw[decide_eq_false (fun e=>hl (by rw[e]))]
  simp +decide -implicitDefEqProofs only[k111,go_sem,d];exact⟨_,_,rfl,rfl⟩
theorem drop_rdb {xs:List Bool}{i:Nat}(h:i<xs.length):xs.drop i=rdOf false xs i::xs.drop (i+1):=by
 rw[List.drop_eq_getElem_cons h];unfold rdOf;rw[Int.toNat_natCast,List.getD_eq_getElem?_getD,List.getElem?_eq_getElem h];rfl
theorem indexB_loop {vals:FuncId→Bool}{call:CallF}{n:Nat}(xs:List Bool)(v:Bool)(hx:xs.length<2^62):∀(d i m:Nat),i+d=xs.length→d<m→
  Tm.Loop Try.prog vals call n [0,1,7,8] k117b0 m ⟨[(0,bools xs),(1,bool v),(7,int xs.length),(8,int i)],[]⟩=some (if v∈xs.drop i then(.ret,⟨[(4,int (i+(xs.drop i).idxOf v:Nat))],[]⟩) else(.exit 0,⟨[(0,bools xs),(1,bool v),(7,int xs.length),(8,int xs.length),(9,bool false)],[]⟩))
 |0,i,m,hi,hm=>by
  obtain⟨m,rfl⟩:∃p,m=p+1:=⟨m-1,by omega⟩
  obtain rfl:i=xs.length:=by omega
  rw[Tm.Loop_succ]
  simp +decide -implicitDefEqProofs only[bind_ite,andThen_ite,leaves_ite,k117b0,go_sem]
  simp
 |d+1,i,m,hi,hm=>by
  obtain⟨m,rfl⟩:∃p,m=p+1:=⟨m-1,by omega⟩
  have ih:=indexB_loop (vals:=vals) (call:=call) (n:=n) xs v hx d (i+1) m (by omega) (by omega)
  rw[Tm.Loop_succ]
  generalize Tm.Loop Try.prog vals call n [0,1,7,8] k117b0 m=L at ih⊢
  have e1:decide ((i:Int)<xs.length)=true:=by simp;omega
  have e2:0≤(i:Int)∧(i:Int)<xs.length:=by omega
  have e3:=wrap_next (n:=xs.length) (i:=i) (by omega) (by omega)
  rw[drop_rdb (xs:=xs) (i:=i) (by omega)]
  by_cases e:v=rdOf false xs i
  ·have c1:decide (v=rdOf false xs i)=true:=by simp[e]
   simp +decide -implicitDefEqProofs only[k117b0,go_sem,e1,e2,e3,c1]
   simp[e]
  ·have c1:decide (v=rdOf false xs i)=false:=by simp[e]
   simp +decide -implicitDefEqProofs only[k117b0,go_sem,e1,e2,e3,c1]
   rw[ih]
   by_cases hv:v∈xs.drop (i+1)
   ·have e':(rdOf false xs i==v)=false:=by simpa using Ne.symm e
    simp[e,hv,List.idxOf_cons,e'];omega
   ·simp[e,hv]
theorem indexB_runs (xs:List Bool)(v:Bool)(hx:xs.length<2^62):Runs Try.prog tab (xs.length+2) 117 [bools xs,bool v] (int (if v∈xs then(xs.idxOf v:Nat) else -1)):=by
 refine Runs.by (rs:=[.tmp 4]) (N:=19) rfl Try.func117 rfl rfl (by simp) fun k hk=>?_
 have h:=indexB_loop (vals:=valsOf tab) (call:=callAt Try.prog tab k) (n:=k) xs v hx xs.length 0 k (by omega) (by omega)
 rw[show((0:Nat):Int)=0 from rfl,List.drop_zero,Nat.zero_add] at h
 by_cases hv:v∈xs
 ·rw[if_pos hv] at h⊢
  simp +decide -implicitDefEqProofs only[k117,go_sem,h]
  exact⟨_,_,rfl,rfl⟩
 ·rw[if_neg hv] at h⊢
  simp +decide -implicitDefEqProofs only[k117,go_sem,h]
  exact⟨_,_,rfl,rfl⟩
theorem containsB_runs (xs:List Bool)(v:Bool)(hx:xs.length<2^50):Runs Try.prog tab (xs.length+3) 110 [bools xs,bool v] (bool (decide (v∈xs))):=by
 refine Runs.by (rs:=[.tmp 4]) (N:=9) rfl Try.func110 rfl rfl (by simp) fun k hk=>?_
 have hc:∀h,callAt Try.prog tab k 117 [bools xs,bool v] h=some (int (if v∈xs then(xs.idxOf v:Nat) else -1),h):=fun h=>indexB_runs xs v (by omega) k hk _ h (by simp +decide -implicitDefEqProofs only[depth,go_sem])
 by_cases hv:v∈xs
 ·simp only[if_pos hv] at hc
  have d:decide ((xs.idxOf v:Int)≥0)=true:=by simp
  rw[decide_eq_true hv]
  simp +decide -implicitDefEqProofs only[k110,go_sem,hc,d];exact⟨_,_,rfl,rfl⟩
 ·simp only[if_neg hv] at hc
  rw[decide_eq_false hv]
  simp +decide -implicitDefEqProofs only[k110,go_sem,hc];exact⟨_,_,rfl,rfl⟩
def phiB (x:Ins):Bool:=decide (x.op=26)
def beh (l:List Ins)(k:Nat):Bool:=(l.take k).any fun x=>!phiB x
def badE (z:Bool)(l:List Ins)(k:Nat):Bool:=(!decide (endsB (insAt l k).op=decide ((k:Int)=(l.length:Int)-1)))||(phiB (insAt l k)&&(beh l k||z))
def badTo (n:Nat)(t:Int):Bool:=decide (t<1)||decide (t≥(n:Int))
def lastOf (l:List Ins):Ins:=insAt l ((l.length:Int)-1)
def twiceB (into:List Int):Bool:=decide ((into.length:Int)=2)&&decide (rd into 0=rd into 1)
def badW (n:Nat)(z:Bool)(l:List Ins):Bool:=decide ((l.length:Int)=0)||((List.range' 0 l.length).any (badE z l)||((lastOf l).into.any (badTo n)||twiceB (lastOf l).into))
def badPhi (p:List Int)(x:Ins):Bool:=phiB x&&!decide (x.into=p)
def badBW (l:List Block)(b:Nat):Bool:=badW l.length (decide ((b:Int)=0)) (blkAt l b).ins
def badBP (l:List Block)(pv:List (List Int))(b:Nat):Bool:=(blkAt l b).ins.any (badPhi (rowOfL pv b))
noncomputable def flowsB (l:List Block):Bool:= !(List.range' 0 l.length).any (badBW l)&&(!decide (false∈reachOf l)&&!(List.range' 0 l.length).any (badBP l (prevOf l)))
theorem any_eta (f:Nat→Bool)(n:Nat):(List.range' 0 n).any (fun i=>f i)=(List.range' 0 n).any f:=rfl
theorem beh_next {l:List Ins}{k:Nat}(h:k<l.length):beh l (k+1)=(beh l k||!decide ((insAt l k).op=26)):=by
 unfold beh
 rw[List.take_add_one,List.any_append,List.getElem?_eq_getElem h]
 simp[insAt,phiB,List.getD_eq_getElem?_getD,List.getElem?_eq_getElem h]
theorem wrap_last {n:Nat}(h:n<2^60):IntKind.i64.wrap ((n:Int)-1)=(n:Int)-1:=wrap_in (by omega) (by omega)
theorem flows_l0 {vals:FuncId→Bool}{call:CallF}{n:Nat}(b:Int)(z:Bool)(hz:decide (b=0)=z)(p:Nat)(c d e:C)(l:List Ins)(hl:l.length<2^50)(I:Heap→Prop)(hp:∀h x,I h→I (h++[x]))(hb0:∀h,I h→h[p]?=some (.row 0 [inss l]))(hv:vals 56=true)(he:∀op h,call 56 [int op] h=some (bool (endsB op),h))(m:Nat)(hm:l.length<m)(h:Heap)(hI:I h):∃h1,I h1∧Tm.Loop Try.prog vals call n [1,3,4,5,17,18,19,29,30,31] k91b0 m ⟨[(1,.op 0 0),(3,int b),(4,.op p 0),(5,bool (beh l 0)),(17,c),(18,d),(19,e),(29,inss l),(30,int l.length),(31,int 0)],h⟩=some (if (List.range' 0 l.length).any (badE z l)=true then(.ret,⟨[(2,bool false)],h1⟩) else(.exit 2,⟨[(1,.op 0 0),(3,int b),(4,.op p 0),(5,bool (beh l l.length)),(17,c),(18,d),(19,e),(29,inss l),(30,int l.length),(31,int l.length),(32,bool false)],h1⟩)):=by
 obtain⟨h1,J,L⟩:=Loop_any (P:=Try.prog) (vals:=vals) (call:=call) (n:=n) (ks:=[1,3,4,5,17,18,19,29,30,31]) (K:=k91b0) (id:=2) l.length (fun i=>badE z l i) (fun i=>[(1,.op 0 0),(3,int b),(4,.op p 0),(5,bool (beh l i)),(17,c),(18,d),(19,e),(29,inss l),(30,int l.length),(31,int i)]) [(2,bool false)] [(1,.op 0 0),(3,int b),(4,.op p 0),(5,bool (beh l l.length)),(17,c),(18,d),(19,e),(29,inss l),(30,int l.length),(31,int l.length),(32,bool false)] I
  (fun i h hi hI=>by
   have e1:decide ((i:Int)<l.length)=true:=by simp;omega
   have e2:0≤(i:Int)∧(i:Int)<l.length:=by omega
   have e3:=wrap_next (n:=l.length) (i:=i) (by omega) (by omega)
   have I1:=hp _ (.row 0 (encIns (insAt l i))) hI
   have g1:=hb0 _ I1
   have hbn:=beh_next hi
   have w1:=wrap_last (n:=l.length) (by omega)
   refine⟨_,I1,?_⟩
   simp only[encIns] at g1
   obtain⟨x1,q1⟩:∃q,endsB (insAt l i).op=q:=⟨_,rfl⟩
   obtain⟨x2,q2⟩:∃q,decide ((i:Int)=(l.length:Int)-1)=q:=⟨_,rfl⟩
   obtain⟨x3,q3⟩:∃q,decide ((insAt l i).op=26)=q:=⟨_,rfl⟩
   obtain⟨x4,q4⟩:∃q,beh l i=q:=⟨_,rfl⟩
   unfold badE phiB
   rw[q1,q2,q3,q4]
   have g2:(h++[.row 0 (encIns (insAt l i))])[h.length]?=some (.row 0 (encIns (insAt l i))):=by rw[get_new]
   simp only[encIns] at g2
   cases x1<;>cases x2<;>cases x3<;>cases x4<;>cases z<;>simp +decide -implicitDefEqProofs only[k91b0,go_sem,e1,e2,e3,set_new,encIns,g1,g2,hbn,w1,q1,q2,q3,q4,hz,he,hv])
  (fun h hI=>by
   exact⟨h,hI,by simp +decide -implicitDefEqProofs only[k91b0,go_sem,Int.lt_irrefl,decide_false]⟩) l.length 0 m h (by omega) hm hI
 simp only[show((0:Nat):Int)=0 from rfl] at L
 rw[any_eta] at L
 exact⟨h1,J,L⟩
theorem flows_l1 {vals:FuncId→Bool}{call:CallF}{n:Nat}(a c d e:C)(u v w x:C)(nb:List Block)(l:List Int)(hl:l.length<2^50)(h:Heap)(h0:h[0]?=some (.row 0 [u,v,w,x,blocks nb]))(m:Nat)(hm:l.length<m):Tm.Loop Try.prog vals call n [1,8,17,18,19,74,75,76] k91b1 m ⟨[(1,.op 0 0),(8,a),(17,c),(18,d),(19,e),(74,ints l),(75,int l.length),(76,int 0)],h⟩=some (if l.any (badTo nb.length)=true then(.ret,⟨[(2,bool false)],h⟩) else(.exit 4,⟨[(1,.op 0 0),(8,a),(17,c),(18,d),(19,e),(74,ints l),(75,int l.length),(76,int l.length),(77,bool false)],h⟩)):=by
 obtain⟨h1,e,L⟩:=Loop_any (P:=Try.prog) (vals:=vals) (call:=call) (n:=n) (ks:=[1,8,17,18,19,74,75,76]) (K:=k91b1) (id:=4) l.length (fun i=>badTo nb.length (rd l i)) (fun i=>[(1,.op 0 0),(8,a),(17,c),(18,d),(19,e),(74,ints l),(75,int l.length),(76,int i)]) [(2,bool false)] [(1,.op 0 0),(8,a),(17,c),(18,d),(19,e),(74,ints l),(75,int l.length),(76,int l.length),(77,bool false)] (fun g=>g=h)
  (fun i g hi hg=>⟨h,rfl,by
   rw[hg]
   have e1:decide ((i:Int)<l.length)=true:=by simp;omega
   have e2:0≤(i:Int)∧(i:Int)<l.length:=by omega
   have e3:=wrap_next (n:=l.length) (i:=i) (by omega) (by omega)
   unfold badTo
   cases c1:decide (rd l i<1)<;>cases c2:decide (rd l i≥(nb.length:Int))<;>simp +decide -implicitDefEqProofs only[k91b1,go_sem,e1,e2,e3,set_new,c1,c2,h0]⟩)
  (fun g hg=>⟨h,rfl,by rw[hg];simp +decide -implicitDefEqProofs only[k91b1,go_sem,Int.lt_irrefl,decide_false]⟩) l.length 0 m h (by omega) hm rfl
 rw[e] at L
 simp only[show((0:Nat):Int)=0 from rfl] at L
 rw[any_ints] at L
 exact L
theorem flows_l2 {vals:FuncId→Bool}{call:CallF}{n:Nat}(u v w x:C)(l:List Block)(hl2:l.length<2^50)(hb:∀b∈l,(b.ins.length<n∧b.ins.length<2^50)∧∀y∈b.ins,y.into.length<n∧y.into.length<2^50)(I:Heap→Prop)(hp:∀h x,I h→I (h++[x]))(hg:∀h,I h→h[0]?=some (.row 0 [u,v,w,x,blocks l]))(hv:vals 56=true)(he:∀op h,call 56 [int op] h=some (bool (endsB op),h))(m:Nat)(hm:l.length<m)(h:Heap)(hI:I h):∃h1,I h1∧Tm.Loop Try.prog vals call n [1,17,18,19] k91b2 m ⟨[(1,.op 0 0),(17,blocks l),(18,int l.length),(19,int 0)],h⟩=some (if (List.range' 0 l.length).any (badBW l)=true then(.ret,⟨[(2,bool false)],h1⟩) else(.exit 0,⟨[(1,.op 0 0),(17,blocks l),(18,int l.length),(19,int l.length),(20,bool false)],h1⟩)):=by
 obtain⟨h1,J,L⟩:=Loop_any (P:=Try.prog) (vals:=vals) (call:=call) (n:=n) (ks:=[1,17,18,19]) (K:=k91b2) (id:=0) l.length (fun i=>badBW l i) (fun i=>[(1,.op 0 0),(17,blocks l),(18,int l.length),(19,int i)]) [(2,bool false)] [(1,.op 0 0),(17,blocks l),(18,int l.length),(19,int l.length),(20,bool false)] I
  (fun i h hi hI=>by
   have e1:decide ((i:Int)<l.length)=true:=by simp;omega
   have e2:0≤(i:Int)∧(i:Int)<l.length:=by omega
   have e3:=wrap_next (n:=l.length) (i:=i) (by omega) (by omega)
   have hx:=blkAt_mem e2
   obtain⟨hb1,hb2⟩:=hb _ hx
   generalize hb:(blkAt l i).ins=ins at hb1 hb2
   have I1:=hp _ (.row 0 [inss ins]) hI
   have p1:(h++[Tm.Node.row 0 [inss ins]])[h.length]?=some (.row 0 [inss ins]):=by rw[get_new]
   obtain⟨z,hz⟩:∃q,decide ((i:Int)=0)=q:=⟨_,rfl⟩
   obtain⟨h1,⟨J1,P1⟩,L0⟩:=flows_l0 (vals:=vals) (call:=call) (n:=n) i z hz h.length (blocks l) (int l.length) (int i) ins hb1.2 (fun g=>I g∧g[h.length]?=some (.row 0 [inss ins])) (fun g y hg=>⟨hp g y hg.1,by rw[List.getElem?_append_left (List.getElem?_eq_some_iff.1 hg.2).1];exact hg.2⟩) (fun g hg=>hg.2) hv he n hb1.1 _ ⟨I1,p1⟩
   have bh0:beh ins 0=false:=rfl
   rw[bh0] at L0
   unfold badBW badW
   rw[hz,hb]
   cases d0:decide ((ins.length:Int)=0) with
   |true=>
    refine⟨_,I1,?_⟩
    simp +decide -implicitDefEqProofs only[k91b2,go_sem,e1,e2,e3,set_new,hb,d0]
   |false=>
    have hpos:¬((ins.length:Int)=0):=of_decide_eq_false d0
    cases c0:(List.range' 0 ins.length).any (badE z ins) with
    |true=>
     rw[c0,if_pos rfl] at L0
     refine⟨h1,J1,?_⟩
     simp +decide -implicitDefEqProofs only[k91b2,go_sem,e1,e2,e3,set_new,hb,d0,L0]
    |false=>
     rw[c0,if_neg (by decide)] at L0
     have w1:=wrap_last (n:=ins.length) (by omega)
     have el:0≤(ins.length:Int)-1∧(ins.length:Int)-1<ins.length:=by omega
     have hm:lastOf ins∈ins:=insAt_mem el
     obtain⟨hi1,hi2⟩:=hb2 _ hm
     have g2:=hg h1 J1
     unfold lastOf at hi1 hi2⊢
     generalize hla:insAt ins ((ins.length:Int)-1)=la at hi1 hi2⊢
     have L1:=flows_l1 (vals:=vals) (call:=call) (n:=n) (ints la.into) (blocks l) (int l.length) (int i) u v w x l la.into hi2 h1 g2 n hi1
     refine⟨h1,J1,?_⟩
     cases c1:la.into.any (badTo l.length) with
     |true=>
      rw[c1,if_pos rfl] at L1
      simp +decide -implicitDefEqProofs only[k91b2,go_sem,e1,e2,e3,set_new,hb,d0,L0,P1,w1,el,hla,L1]
     |false=>
      rw[c1,if_neg (by decide)] at L1
      unfold twiceB
      cases c2:decide ((la.into.length:Int)=2) with
      |false=>simp +decide -implicitDefEqProofs only[k91b2,go_sem,e1,e2,e3,set_new,hb,d0,L0,P1,w1,el,hla,L1,c2,Bool.false_and,Bool.false_eq_true,if_false]
      |true=>
       have f0:(0:Int)≤0∧(0:Int)<la.into.length:=by have:=of_decide_eq_true c2;omega
       have f1:(0:Int)≤1∧(1:Int)<la.into.length:=by have:=of_decide_eq_true c2;omega
       cases c3:decide (rd la.into 0=rd la.into 1)<;>simp +decide -implicitDefEqProofs only[k91b2,go_sem,e1,e2,e3,set_new,hb,d0,L0,P1,w1,el,hla,L1,c2,c3,f0,f1,Bool.true_and])
  (fun h hI=>by
   exact⟨h,hI,by simp +decide -implicitDefEqProofs only[k91b2,go_sem,Int.lt_irrefl,decide_false]⟩) l.length 0 m h (by omega) hm hI
 simp only[show((0:Nat):Int)=0 from rfl] at L
 rw[any_eta] at L
 exact⟨h1,J,L⟩
theorem flows_l3 {vals:FuncId→Bool}{call:CallF}{n:Nat}(pv:List (List Int))(b:Int)(hbb:0≤b∧b<pv.length)(a c d:C)(l:List Ins)(hl:l.length<2^50)(I:Heap→Prop)(hp:∀h x,I h→I (h++[x]))(hv:vals 111=true)(hq:∀x∈l,∀h,call 111 [ints x.into,ints (rowOfL pv b)] h=some (bool (decide (x.into=rowOfL pv b)),h))(m:Nat)(hm:l.length<m)(h:Heap)(hI:I h):∃h1,I h1∧Tm.Loop Try.prog vals call n [11,12,109,110,111,117,118,119] k91b3 m ⟨[(11,rows pv),(12,int b),(109,a),(110,c),(111,d),(117,inss l),(118,int l.length),(119,int 0)],h⟩=some (if l.any (badPhi (rowOfL pv b))=true then(.ret,⟨[(2,bool false)],h1⟩) else(.exit 8,⟨[(11,rows pv),(12,int b),(109,a),(110,c),(111,d),(117,inss l),(118,int l.length),(119,int l.length),(120,bool false)],h1⟩)):=by
 obtain⟨h1,J,L⟩:=Loop_any (P:=Try.prog) (vals:=vals) (call:=call) (n:=n) (ks:=[11,12,109,110,111,117,118,119]) (K:=k91b3) (id:=8) l.length (fun i=>badPhi (rowOfL pv b) (insAt l i)) (fun i=>[(11,rows pv),(12,int b),(109,a),(110,c),(111,d),(117,inss l),(118,int l.length),(119,int i)]) [(2,bool false)] [(11,rows pv),(12,int b),(109,a),(110,c),(111,d),(117,inss l),(118,int l.length),(119,int l.length),(120,bool false)] I
  (fun i h hi hI=>by
   have e1:decide ((i:Int)<l.length)=true:=by simp;omega
   have e2:0≤(i:Int)∧(i:Int)<l.length:=by omega
   have e3:=wrap_next (n:=l.length) (i:=i) (by omega) (by omega)
   have I1:=hp _ (.row 0 (encIns (insAt l i))) hI
   have hq1:=hq _ (insAt_mem e2)
   refine⟨_,I1,?_⟩
   unfold badPhi phiB
   cases c1:decide ((insAt l i).op=26)<;>cases c2:decide ((insAt l i).into=rowOfL pv b)<;>simp +decide -implicitDefEqProofs only[k91b3,go_sem,e1,e2,e3,set_new,encIns,hbb,hq1,hv,c1,c2])
  (fun h hI=>by
   exact⟨h,hI,by simp +decide -implicitDefEqProofs only[k91b3,go_sem,Int.lt_irrefl,decide_false]⟩) l.length 0 m h (by omega) hm hI
 simp only[show((0:Nat):Int)=0 from rfl] at L
 rw[any_inss] at L
 exact⟨h1,J,L⟩
theorem flows_l4 {vals:FuncId→Bool}{call:CallF}{n:Nat}(pv:List (List Int))(l:List Block)(hpv:pv.length=l.length)(hl2:l.length<2^50)(hb:∀b∈l,b.ins.length<n∧b.ins.length<2^50)(I:Heap→Prop)(hp:∀h x,I h→I (h++[x]))(hv:vals 111=true)(hq:∀(b:Int),0≤b∧b<l.length→∀x∈(blkAt l b).ins,∀h,call 111 [ints x.into,ints (rowOfL pv b)] h=some (bool (decide (x.into=rowOfL pv b)),h))(m:Nat)(hm:l.length<m)(h:Heap)(hI:I h):∃h1,I h1∧Tm.Loop Try.prog vals call n [11,109,110,111] k91b4 m ⟨[(11,rows pv),(109,blocks l),(110,int l.length),(111,int 0)],h⟩=some (if (List.range' 0 l.length).any (badBP l pv)=true then(.ret,⟨[(2,bool false)],h1⟩) else(.exit 6,⟨[(11,rows pv),(109,blocks l),(110,int l.length),(111,int l.length),(112,bool false)],h1⟩)):=by
 obtain⟨h1,J,L⟩:=Loop_any (P:=Try.prog) (vals:=vals) (call:=call) (n:=n) (ks:=[11,109,110,111]) (K:=k91b4) (id:=6) l.length (fun i=>badBP l pv i) (fun i=>[(11,rows pv),(109,blocks l),(110,int l.length),(111,int i)]) [(2,bool false)] [(11,rows pv),(109,blocks l),(110,int l.length),(111,int l.length),(112,bool false)] I
  (fun i h hi hI=>by
   have e1:decide ((i:Int)<l.length)=true:=by simp;omega
   have e2:0≤(i:Int)∧(i:Int)<l.length:=by omega
   have e3:=wrap_next (n:=l.length) (i:=i) (by omega) (by omega)
   have hx:=blkAt_mem e2
   have hb1:=hb _ hx
   obtain⟨h1,J1,L1⟩:=flows_l3 (vals:=vals) (call:=call) (n:=n) pv i (by omega) (blocks l) (int l.length) (int i) (blkAt l i).ins hb1.2 I hp hv (hq i e2) n hb1.1 _ (hp _ (.row 0 [inss (blkAt l i).ins]) hI)
   unfold badBP
   refine⟨h1,J1,?_⟩
   cases c1:(blkAt l i).ins.any (badPhi (rowOfL pv i)) with
   |true=>
    rw[c1,if_pos rfl] at L1
    simp +decide -implicitDefEqProofs only[k91b4,go_sem,e1,e2,e3,set_new,L1]
   |false=>
    rw[c1,if_neg (by decide)] at L1
    simp +decide -implicitDefEqProofs only[k91b4,go_sem,e1,e2,e3,set_new,L1])
  (fun h hI=>by
   exact⟨h,hI,by simp +decide -implicitDefEqProofs only[k91b4,go_sem,Int.lt_irrefl,decide_false]⟩) l.length 0 m h (by omega) hm hI
 simp only[show((0:Nat):Int)=0 from rfl] at L
 rw[any_eta] at L
 exact⟨h1,J,L⟩
theorem wflows_runs (f:Tm.Func)(F:Fine f):Runs Try.prog tab (2^36+100) 91 [.agg (encFunc f)] (bool (flowsB f.blocks)):=by
 refine Runs.by (rs:=[.tmp 2]) (N:=138) rfl Try.func91 rfl rfl (by simp) fun k hk=>?_
 have b1:=F.blocks
 have hrl:=reach_len f.blocks
 have hpl:=prev_len f.blocks
 have he:∀op h,callAt Try.prog tab k 56 [int op] h=some (bool (endsB op),h):=fun op h=>ends_runs op k (by omega) _ h (by simp only[mapC_cons,mapC_nil,depth,view_int,Option.bind_some])
 have hr:∀h,callAt Try.prog tab k 25 [.agg (encFunc f)] h=some (bools (reachOf f.blocks),h):=fun h=>reach_runs f F k (by omega) _ h (by simp only[mapC_cons,mapC_nil,depth,view_func,Option.bind_some])
 have hpr:∀h,callAt Try.prog tab k 22 [.agg (encFunc f)] h=some (rows (prevOf f.blocks),h):=fun h=>prev_runs f F k (by omega) _ h (by simp only[mapC_cons,mapC_nil,depth,view_func,Option.bind_some])
 have hct:∀h,callAt Try.prog tab k 110 [bools (reachOf f.blocks),bool false] h=some (bool (decide (false∈reachOf f.blocks)),h):=fun h=>containsB_runs (reachOf f.blocks) false (by omega) k (by omega) _ h (by simp +decide -implicitDefEqProofs only[depth,go_sem])
 have hq:∀(b:Int),0≤b∧b<f.blocks.length→∀x∈(blkAt f.blocks b).ins,∀h,callAt Try.prog tab k 111 [ints x.into,ints (rowOfL (prevOf f.blocks) b)] h=some (bool (decide (x.into=rowOfL (prevOf f.blocks) b)),h):=fun b hb x hx h=>by
  have:=(F.into _ (blkAt_mem hb) x hx).2
  exact wequal_runs x.into _ (by omega) k (by omega) _ h (by simp +decide -implicitDefEqProofs only[depth,go_sem])
 have v1:valsOf tab 56=true:=by decide
 have v2:valsOf tab 111=true:=by decide
 generalize hc:callAt Try.prog tab k=call at*
 generalize hv:valsOf tab=vals at*
 rw[enc_func] at*
 generalize hI:Has 0 (.row 0 [str f.name,bool f.out,ints f.params,int f.result,blocks f.blocks])=I
 have hp:∀h x,I h→I (h++[x]):=by rw[←hI];exact fun h x H=>H.push
 have hg:∀h,I h→h[0]?=some (.row 0 [str f.name,bool f.out,ints f.params,int f.result,blocks f.blocks]):=by rw[←hI];exact fun h H=>H
 have i0:I [.row 0 [str f.name,bool f.out,ints f.params,int f.result,blocks f.blocks]]:=by rw[←hI];rfl
 obtain⟨h1,I1,L1⟩:=flows_l2 (vals:=vals) (call:=call) (n:=k) _ _ _ _ f.blocks (by omega) (fun b hb=>⟨by have:=F.ins b hb;omega,fun y hy=>by have:=(F.into b hb y hy).2;omega⟩) I hp hg v1 he k (by omega) _ i0
 obtain⟨h2,I2,L2⟩:=flows_l4 (vals:=vals) (call:=call) (n:=k) (prevOf f.blocks) f.blocks hpl (by omega) (fun b hb=>by have:=F.ins b hb;omega) I hp v2 hq k (by omega) _ I1
 have g1:=hg h1 I1
 unfold flowsB
 cases x1:(List.range' 0 f.blocks.length).any (badBW f.blocks) with
 |true=>
  rw[x1,if_pos rfl] at L1
  simp +decide -implicitDefEqProofs only[k91,go_sem,L1];exact⟨_,_,rfl,rfl⟩
 |false=>
  rw[x1,if_neg (by decide)] at L1
  cases x2:decide (false∈reachOf f.blocks) with
  |true=>simp +decide -implicitDefEqProofs only[k91,go_sem,L1,g1,hr,hct,x2];exact⟨_,_,rfl,rfl⟩
  |false=>
   cases x3:(List.range' 0 f.blocks.length).any (badBP f.blocks (prevOf f.blocks)) with
   |true=>
    rw[x3,if_pos rfl] at L2
    simp +decide -implicitDefEqProofs only[k91,go_sem,L1,g1,hr,hct,x2,hpr,L2];exact⟨_,_,rfl,rfl⟩
   |false=>
    rw[x3,if_neg (by decide)] at L2
    simp +decide -implicitDefEqProofs only[k91,go_sem,L1,g1,hr,hct,x2,hpr,L2];exact⟨_,_,rfl,rfl⟩
end Go.Proofs.Ytkcimaibaicdcaa.Tk
