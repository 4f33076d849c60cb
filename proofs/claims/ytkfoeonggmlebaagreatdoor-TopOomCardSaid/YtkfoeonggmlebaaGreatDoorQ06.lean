/-
  Contracts of the program's functions, and plain facts, towards the laws of millpondtop. No condition beyond those that each theorem bears.
-/
import Derived.Test.YtkfoeonggmlebaaGreatDoorQ05
import Derived.Test.YtkfoeonggmlebaaGreatDoorQAA
set_option maxRecDepth 100000
set_option maxHeartbeats 4000000
namespace Go.Proofs.YtkfoeonggmlebaaGreatDoor
section
open Go.RowKit
theorem swap2_set {α:Type} (L M R:List α) (x y:α):(((L++x::(M++y::R)).set L.length y).set (L.length+1+M.length) x)=L++y::(M++x::R):=by
 rw [List.set_append_right _ _ (by omega),Nat.sub_self,List.set_cons_zero,List.set_append_right _ _ (by omega),show L.length+1+M.length - L.length=M.length+1 by omega,List.set_cons_succ,List.set_append_right _ _ (by omega),Nat.sub_self]
 rfl
theorem get_app2 {α:Type} (L M R:List α) (x y:α):(L++x::(M++y::R))[L.length+1+M.length]?=some y:=by
 rw [List.getElem?_append_right (by omega),show L.length+1+M.length - L.length=M.length+1 by omega,ζc,List.getElem?_append_right (by omega),Nat.sub_self]
 rfl
theorem swapr_any (fn:Nat) (lb:Array Value) (g cap:Nat) (P X M Y S xs:List Int) (w:World) (hxs:xs=P++(X++(M++(Y++S)))) (hrow:RowI w g cap xs) (hlen:X.length=Y.length) (hfew:xs.length≤1000000) :
 Calls Tryz.prog 298 #[.slice (some ⟨g,0,none⟩) xs.length cap,.int .i64 P.length,.int .i64 (P++(X++M)).length,.int .i64 X.length,.func (.func fn) #[] lb] w fun e w' =>
  e=.returned (.tuple #[])∧Mod (fun b=>b=g) w w'∧RowI w' g cap (P++(Y++(M++(X++S)))):=by
 obtain ⟨hlc,hmax⟩:=hrow.few
 unfold maxLen at hmax
 have hnl:xs.length=P.length+X.length+M.length+Y.length+S.length:=by rw [hxs];simp;omega
 have hml:(P++(X++M)).length=P.length+X.length+M.length:=by simp;omega
 obtain ⟨n,hn⟩:∃ n,n=xs.length:=⟨_,rfl⟩
 obtain ⟨a,ha⟩:∃ a,a=P.length:=⟨_,rfl⟩
 obtain ⟨b,hb⟩:∃ b,b=(P++(X++M)).length:=⟨_,rfl⟩
 obtain ⟨k,hk⟩:∃ k,k=X.length:=⟨_,rfl⟩
 rw [←hn] at hlc hfew
 rw [←hn,←ha,←hb,←hk]
 rw [hxs] at hrow
 have hba:b=a+k+M.length:=by omega
 have hbn:b+k≤n:=by omega
 have Hn:=ζh hn
 have Ha:=ζh ha
 have Hb:=ζh hba
 have Hk:=ζh hk
 have Hl:=ζh hlen
 have Hr:=ζh hrow
 clear hn ha hb hk hlen hnl hml hxs hba hrow
 go_enter Tryz.func298,Tryz.ntmps298
 go_wp2_with fail
 go_loopw [10] (fun i wr=>∃ q:Nat,q≤k∧i=.int .i64 (q:Int)∧Mod (fun b=>b=g) w wr∧Hid (RowI wr g cap ((P++Y.take q)++((X.drop q++M++X.take q)++(Y.drop q++S))))) (fun i _=>k - (intOf i).toNat)
 case atStart=>exact ⟨0,by omega,by go_num,Mod.refl _ _,ζh (by simpa using Hr.out)⟩
 case round =>
  obtain ⟨q,hq,rfl,hm,HR⟩:=hrel
  obtain ⟨wo,rfl⟩:∃ wo:World,wo=wr:=⟨_,rfl⟩
  by_cases hlt:q < k
  · obtain ⟨x,hx⟩:∃ x,X[q]?=some x:=⟨_,ζg (by have:=Hk.out;omega)⟩
    obtain ⟨y,hy⟩:∃ y,Y[q]?=some y:=⟨_,ζg (by have:=Hk.out;have:=Hl.out;omega)⟩
    have hxd:X.drop q=x::X.drop (q+1):=by
     have h1:=ζi.1 hx
     rw [List.drop_eq_getElem_cons h1.1,h1.2]
    have hyd:Y.drop q=y::Y.drop (q+1):=by
     have h1:=ζi.1 hy
     rw [List.drop_eq_getElem_cons h1.1,h1.2]
    have hxt:X.take (q+1)=X.take q++[x]:=by rw [List.take_add_one,hx];rfl
    have hyt:Y.take (q+1)=Y.take q++[y]:=by rw [List.take_add_one,hy];rfl
    obtain ⟨L,hL⟩:∃ L,L=P++Y.take q:=⟨_,rfl⟩
    obtain ⟨Q,hQ⟩:∃ Q,Q=X.drop (q+1)++M++X.take q:=⟨_,rfl⟩
    obtain ⟨R,hR⟩:∃ R,R=Y.drop (q+1)++S:=⟨_,rfl⟩
    have hr2:RowI wo g cap (L++x::(Q++y::R)):=by
     rw [hL,hQ,hR]
     have:=HR.out
     rw [hxd,hyd] at this
     simpa using this
    have hnext:(P++Y.take (q+1))++((X.drop (q+1)++M++X.take (q+1))++(Y.drop (q+1)++S))=L++y::(Q++x::R):=by
     rw [hL,hQ,hR,hxt,hyt];simp
    have hLl:L.length=a+q:=by rw [hL,List.length_append,List.length_take];have:=Ha.out;have:=Hk.out;have:=Hl.out;omega
    have hQl:L.length+1+Q.length=b+q:=by rw [hLl,hQ,List.length_append,List.length_append,List.length_drop,List.length_take];have:=Hb.out;have:=Hk.out;omega
    have c0:=hr2.cell (get_app L (Q++y::R) x)
    have c1:=hr2.cell (get_app2 L Q R x y)
    rw [hLl] at c0
    rw [hQl] at c1
    have hs:=(hr2.set (a+q) y).set (b+q) x
    rw [←hQl,←hLl,swap2_set,hLl,←hLl,hQl,hLl] at hs
    have f0:=hr2.frozen (a+q)
    have f1:=hr2.frozen (b+q)
    have HS:=ζh hs
    have HN:=ζh hnext
    have i0:0≤(a:Int)+(q:Int):=by omega
    have i1:(a:Int)+(q:Int) < n:=by omega
    have i2:0≤(b:Int)+(q:Int):=by omega
    have i3:(b:Int)+(q:Int) < n:=by omega
    have e1:=(World.cell?_setCell_other wo ⟨g,a+q,none⟩ ⟨g,b+q,none⟩ (.int .i64 y) (by intro h;simp only [Addr.mk.injEq] at h;omega)).trans c1
    have g1:=(hr2.set (a+q) y).frozen (b+q)
    clear hs hnext hx hy hxd hyd hxt hyt hL hQ hR hLl hQl hr2
    go_wp2_with fail
    go_region
    go_wp2_with fail
    go_roundw
    case rel =>
     refine ⟨q+1,by omega,by go_num,((hm.setCell (.inl rfl) _).setCell (.inl rfl) _).drew,?_⟩
     rw [HN.out]
     exact ζh (HS.out.keep (Mod.refl (fun _=>False) _).drew (fun x=>x))
    case measure=>simp [intOf];omega
  · obtain rfl:q=k:=by omega
    have hend:RowI wo g cap (P++(Y++(M++(X++S)))):=by
     have:=HR.out
     rw [Hk.out,List.drop_length,List.take_length,Hl.out,List.take_length,List.drop_length] at this
     simpa using this
    have HE:=ζh hend
    clear hend
    go_wp2_with fail
    go_end0
    exact ⟨rfl,hm,HE.out⟩
theorem rotate_any (fn:Nat) (lb:Array Value) (g cap:Nat) (P X Y S xs:List Int) (w:World) (hxs:xs=P++(X++(Y++S))) (hrow:RowI w g cap xs) (hX:0 < X.length) (hY:0 < Y.length) (hfew:xs.length≤1000000) :
 Calls Tryz.prog 290 #[.slice (some ⟨g,0,none⟩) xs.length cap,.int .i64 P.length,.int .i64 (P++X).length,.int .i64 (P++(X++Y)).length,.func (.func fn) #[] lb] w fun e w' =>
  e=.returned (.tuple #[])∧Mod (fun b=>b=g) w w'∧RowI w' g cap (P++(Y++(X++S))):=by
 obtain ⟨hlc,hmax⟩:=hrow.few
 unfold maxLen at hmax
 have hnl:xs.length=P.length+X.length+Y.length+S.length:=by rw [hxs];simp;omega
 have hml:(P++X).length=P.length+X.length:=by simp
 have hel:(P++(X++Y)).length=P.length+X.length+Y.length:=by simp;omega
 obtain ⟨n,hn⟩:∃ n,n=xs.length:=⟨_,rfl⟩
 obtain ⟨a,ha⟩:∃ a,a=P.length:=⟨_,rfl⟩
 obtain ⟨m,hm⟩:∃ m,m=(P++X).length:=⟨_,rfl⟩
 obtain ⟨b,hb⟩:∃ b,b=(P++(X++Y)).length:=⟨_,rfl⟩
 rw [←hn] at hlc hfew
 rw [←hn,←ha,←hm,←hb]
 rw [hxs] at hrow
 have hma:m=a+X.length:=by omega
 have hbm:b=m+Y.length:=by omega
 have hbn:b≤n:=by omega
 have Hn:=ζh (show n=P.length+X.length+Y.length+S.length by omega)
 have Ha:=ζh ha
 have Hm:=ζh hma
 have Hb:=ζh hbm
 have Hr:=ζh hrow
 have HF:=ζh hfew
 have w1:IntKind.i64.wrap ((m:Int) - (a:Int))=((X.length:Nat):Int):=by rw [wrap_small _ (by omega) (by omega)];omega
 have w2:IntKind.i64.wrap ((b:Int) - (m:Int))=((Y.length:Nat):Int):=by rw [wrap_small _ (by omega) (by omega)];omega
 clear hn ha hm hb hnl hml hel hxs hma hbm hrow
 go_enter Tryz.func290,Tryz.ntmps290
 go_wp2_with fail
 go_loopw [10,11] (fun i j wr=>∃ (L U V R:List Int),i=.int .i64 U.length∧j=.int .i64 V.length∧0 < U.length∧0 < V.length∧Hid (L.length+U.length=X.length∧V.length+R.length=Y.length∧L++(V++(U++R))=Y++X)∧Mod (fun b=>b=g) w wr∧Hid (RowI wr g cap (P++(L++(U++(V++(R++S))))))) (fun i j _=>(intOf i).toNat+(intOf j).toNat)
 case atStart=>exact ⟨[],X,Y,[],rfl,rfl,hX,hY,ζh (by simp),Mod.refl _ _,ζh (by simpa using Hr.out)⟩
 case round =>
  obtain ⟨L,U,V,R,rfl,rfl,hU,hV,HL,hm,HR⟩:=hrel
  obtain ⟨wo,rfl⟩:∃ wo:World,wo=wr:=⟨_,rfl⟩
  obtain ⟨l1,l2,l3⟩:=HL.out
  have hfew:=HF.out
  have en:=Hn.out
  have ea:=Ha.out
  have em:=Hm.out
  obtain ⟨i,hi⟩:∃ i,i=U.length:=⟨_,rfl⟩
  obtain ⟨j,hj⟩:∃ j,j=V.length:=⟨_,rfl⟩
  rw [←hi,←hj]
  obtain ⟨p1,hp1⟩:∃ p1,p1=(P++L).length:=⟨_,rfl⟩
  have hmi:p1+i=m:=by rw [hp1,List.length_append];omega
  have wmi:IntKind.i64.wrap ((m:Int) - (i:Int))=(p1:Int):=by rw [wrap_small _ (by omega) (by omega)];omega
  have hlr:(P++(L++(U++(V++(R++S))))).length=n:=by simp;omega
  by_cases hij:i=j
  · have dij:((i:Int) != (j:Int))=false:=by simp [hij]
    have hc:=swapr_any fn lb g cap (P++L) U [] V (R++S) (P++(L++(U++(V++(R++S))))) wo (by simp) HR.out (by omega) (by omega)
    have hm0:(P++L++(U++([]:List Int))).length=m:=by simp;omega
    rw [hlr,←hi,hm0,←hp1] at hc
    have hfin:P++L++(V++([]++(U++(R++S))))=P++(Y++(X++S)):=by
     have:P++L++(V++([]++(U++(R++S))))=P++((L++(V++(U++R)))++S):=by simp
     rw [this,l3];simp
    rw [hfin] at hc
    have HC:=ζh hc
    clear hc hfin en ea em hi hj l1 l2 l3 hlr hij HR hmi hp1 hm0 w1 w2 hU hV hfew
    go_wp2_with fail
    refine HC.out.mono ?_
    rintro e w3 ⟨rfl,hm3,hr3⟩
    go_wp2_with fail
    go_end0
    exact ⟨rfl,hm.trans hm3,hr3⟩
  · have dij:((i:Int) != (j:Int))=true:=by simp;omega
    by_cases hgt:j < i
    · have dg:decide ((j:Int) < (i:Int))=true:=decide_eq_true (by omega)
      have hc:=swapr_any fn lb g cap (P++L) (U.take j) (U.drop j) V (R++S) (P++(L++(U++(V++(R++S))))) wo (by rw [←List.append_assoc (U.take j),List.take_append_drop];simp) HR.out (by rw [List.length_take];omega) (by omega)
      have hm0:(P++L++U).length=m:=by simp;omega
      have hm1:(U.take j).length=j:=by rw [List.length_take];omega
      rw [hlr,hm1,List.take_append_drop,hm0,←hp1] at hc
      have hnx:P++L++(V++(U.drop j++(U.take j++(R++S))))=P++((L++V)++(U.drop j++(U.take j++(R++S)))):=by simp
      rw [hnx] at hc
      have hl3:(L++V)++(U.take j++(U.drop j++R))=Y++X:=by
       rw [←l3,←List.append_assoc (U.take j),List.take_append_drop];simp
      obtain ⟨d,hd⟩:∃ d,d=(U.drop j).length:=⟨_,rfl⟩
      have hdd:d=i - j:=by rw [hd,List.length_drop,hi]
      have wij:IntKind.i64.wrap ((i:Int) - (j:Int))=(d:Int):=by rw [wrap_small _ (by omega) (by omega)];omega
      have HD:=ζh hd
      have HDD:=ζh hdd
      clear hd hdd hm0 hm1
      have HC:=ζh hc
      have HX:=ζh (show (L++V).length+(U.drop j).length=X.length∧(U.take j).length+R.length=Y.length∧(L++V)++(U.take j++(U.drop j++R))=Y++X from ⟨by rw [List.length_append,List.length_drop];omega,by rw [List.length_take];omega,hl3⟩)
      have HI:=ζh hi
      have HJ:=ζh hj
      clear hc hnx hl3 en ea em hi hj l1 l2 l3 hlr HR hmi hp1 w1 w2 hfew
      go_wp2_with fail
      refine HC.out.mono ?_
      rintro e w3 ⟨rfl,hm3,hr3⟩
      go_wp2_with fail
      go_roundw
      case rel =>
       refine ⟨L++V,U.drop j,U.take j,R,?_,?_,?_,?_,HX,hm.trans hm3,ζh hr3⟩
       · rw [←HD.out]
       · rw [List.length_take,Nat.min_eq_left (by have:=HI.out;omega)]
       · rw [List.length_drop];have:=HI.out;omega
       · rw [List.length_take];have:=HJ.out;omega
      case measure=>simp [intOf];have:=HDD.out;have:=HJ.out;omega
    · have dg:decide ((j:Int) < (i:Int))=false:=decide_eq_false (by omega)
      have HLT:=ζh (show i < j by omega)
      have hc:=swapr_any fn lb g cap (P++L) U (V.take (j - i)) (V.drop (j - i)) (R++S) (P++(L++(U++(V++(R++S))))) wo (by rw [←List.append_assoc (V.take _),List.take_append_drop];simp) HR.out (by rw [List.length_drop];omega) (by omega)
      obtain ⟨q1,hq1⟩:∃ q1,q1=(P++L++(U++V.take (j - i))).length:=⟨_,rfl⟩
      have hq2:q1=m+(j - i):=by rw [hq1,List.length_append,←hp1,List.length_append,List.length_take];omega
      have wm0:IntKind.i64.wrap ((m:Int)+(j:Int))=(m:Int)+(j:Int):=wrap_small _ (by omega) (by omega)
      have wmj:IntKind.i64.wrap ((m:Int)+(j:Int) - (i:Int))=(q1:Int):=by rw [wrap_small _ (by omega) (by omega)];omega
      rw [hlr,←hi,←hp1,←hq1] at hc
      have hnx:P++L++(V.drop (j - i)++(V.take (j - i)++(U++(R++S))))=P++(L++(V.drop (j - i)++(V.take (j - i)++((U++R)++S)))):=by simp
      rw [hnx] at hc
      have hl3:L++(V.take (j - i)++(V.drop (j - i)++(U++R)))=Y++X:=by
       rw [←l3,←List.append_assoc (V.take _),List.take_append_drop]
      obtain ⟨d,hd⟩:∃ d,d=(V.take (j - i)).length:=⟨_,rfl⟩
      have hdd:d=j - i:=by rw [hd,List.length_take];omega
      have wij:IntKind.i64.wrap ((j:Int) - (i:Int))=(d:Int):=by rw [wrap_small _ (by omega) (by omega)];omega
      have HD:=ζh hd
      have HDD:=ζh hdd
      clear hd hdd hq1 hq2
      have HC:=ζh hc
      have HX:=ζh (show L.length+(V.drop (j - i)).length=X.length∧(V.take (j - i)).length+(U++R).length=Y.length∧L++(V.take (j - i)++(V.drop (j - i)++(U++R)))=Y++X from ⟨by rw [List.length_drop];omega,by rw [List.length_take,List.length_append];omega,hl3⟩)
      have HI:=ζh hi
      have HJ:=ζh hj
      clear hc hnx hl3 en ea em hi hj l1 l2 l3 hlr HR hmi hp1 w1 w2 hfew
      go_wp2_with fail
      refine HC.out.mono ?_
      rintro e w3 ⟨rfl,hm3,hr3⟩
      go_wp2_with fail
      go_roundw
      case rel =>
       refine ⟨L,V.drop (j - i),V.take (j - i),U++R,?_,?_,?_,?_,HX,hm.trans hm3,ζh hr3⟩
       · rw [List.length_drop,show V.length - (j - i)=i by have:=HJ.out;have:=HLT.out;omega]
       · rw [←HD.out]
       · rw [List.length_drop];have:=HI.out;have:=HJ.out;have:=HLT.out;omega
       · rw [List.length_take];have:=HI.out;have:=HJ.out;have:=HLT.out;omega
      case measure=>simp [intOf];have:=HDD.out;have:=HI.out;have:=HLT.out;omega
end

section
section
variable {α:Type} (k:α→Int)
theorem mrg_one_left {x:α} {B1 B2:List α} (h1:∀ b∈B1,k x < k b) (h2:∀ b∈B2,k b≤k x):mrg k [x] (B1++B2)=B1++x::B2:=by
 have e1:=mrg_app k (A1:=[]) (A2:=[x]) (B1:=B1) (B2:=B2) (by intro b hb a ha;simp at ha;subst ha;exact h1 b hb) (by simp)
 have e2:=mrg_app k (A1:=[x]) (A2:=[]) (B1:=[]) (B2:=B2) (by simp) (by intro a ha b hb;simp at ha;subst ha;exact h2 b hb)
 simp only [List.nil_append,List.append_nil,mrg_nil_left,mrg_nil_right] at e1 e2
 rw [e1,e2];rfl
theorem mrg_one_right {y:α} {A1 A2:List α} (h1:∀ a∈A1,k y≤k a) (h2:∀ a∈A2,k a < k y):mrg k (A1++A2) [y]=A1++y::A2:=by
 have e1:=mrg_app k (A1:=A1) (A2:=A2) (B1:=[]) (B2:=[y]) (by simp) (by intro a ha b hb;simp at hb;subst hb;exact h1 a ha)
 have e2:=mrg_app k (A1:=[]) (A2:=A2) (B1:=[y]) (B2:=[]) (by intro b hb a ha;simp at hb;subst hb;exact h2 a ha) (by simp)
 simp only [List.nil_append,List.append_nil,mrg_nil_left,mrg_nil_right] at e1 e2
 rw [e1,e2];rfl
theorem Fall.app {A B:List α} (h:Fall k (A++B)):Fall k A∧Fall k B∧∀ a∈A,∀ b∈B,k b≤k a:=by
 unfold Fall at *
 rw [List.pairwise_append] at h
 exact h
theorem Fall.take {l:List α} (h:Fall k l) {i:Nat} {x:α} (hx:l[i]?=some x):(∀ y∈l.take (i+1),k x≤k y)∧(∀ y∈l.drop i,k y≤k x):=by
 have hd:l.drop i=x::l.drop (i+1):=by
  obtain ⟨h1,h2⟩:=ζi.1 hx
  rw [List.drop_eq_getElem_cons h1,h2]
 have ht:l.take (i+1)=l.take i++[x]:=by rw [List.take_add_one,hx];rfl
 have hs:Fall k (l.take i++l.drop i):=by rw [List.take_append_drop];exact h
 obtain ⟨_,g2,g3⟩:=Fall.app k hs
 rw [hd] at g2 g3
 refine ⟨fun y hy=>?_,fun y hy=>?_⟩
 · rw [ht] at hy
   rcases List.mem_append.1 hy with hy | hy
   · exact g3 y hy x List.mem_cons_self
   · rw [List.mem_singleton.1 hy];exact Int.le_refl _
 · rw [hd] at hy
   rcases List.mem_cons.1 hy with rfl | hy
   · exact Int.le_refl _
   · unfold Fall at g2
     rw [List.pairwise_cons] at g2
     exact g2.1 y hy
inductive Full (bs:Nat):List α→List α→Prop
 | nil:Full bs [] []
 | cons {C A ys:List α} (hC:C.length=bs) (h:Full bs A ys):Full bs (C++A) (srt k C++ys)
variable {k}
theorem Full.length {bs:Nat} {A ys:List α} (h:Full k bs A ys):ys.length=A.length:=by
 induction h with
 | nil=>rfl
 | cons hC _ ih=>simp [srt_length,ih]
theorem Full.snoc {bs:Nat} {A ys C:List α} (h:Full k bs A ys) (hC:C.length=bs):Full k bs (A++C) (ys++srt k C):=by
 induction h with
 | nil=>have:=Full.cons (k:=k) (A:=[]) (ys:=[]) hC .nil;simpa using this
 | cons hC' _ ih=>rw [List.append_assoc,List.append_assoc];exact .cons hC' ih
theorem Full.out {bs:Nat} {A ys:List α} (h:Full k bs A ys) (hA:A≠[]):∃ C A' ys',A=C++A'∧ys=srt k C++ys'∧C.length=bs∧Full k bs A' ys':=by
 cases h with
 | nil=>exact absurd rfl hA
 | cons hC h'=>exact ⟨_,_,_,rfl,rfl,hC,h'⟩
theorem Full.small {bs:Nat} {A ys:List α} (h:Full k bs A ys) (hl:A.length < 2 * bs):(A=[]∧ys=[])∨(A.length=bs∧ys=srt k A):=by
 cases h with
 | nil=>exact .inl ⟨rfl,rfl⟩
 | cons hC h' =>
   cases h' with
   | nil=>exact .inr (by simpa using hC)
   | cons hC' h''=>simp only [List.length_append] at hl;omega
theorem Full.two {bs:Nat} {A ys:List α} (h:Full k bs A ys) (hb:0 < bs) (hl:2 * bs≤A.length):∃ C D A' ys',A=C++(D++A')∧ys=srt k C++(srt k D++ys')∧C.length=bs∧D.length=bs∧Full k bs A' ys':=by
 obtain ⟨C,A',ys',e1,e2,e3,h1⟩:=h.out (by intro h0;rw [h0] at hl;simp at hl;omega)
 obtain ⟨D,A'',ys'',f1,f2,f3,h2⟩:=h1.out (by intro h0;rw [e1,h0] at hl;simp at hl;omega)
 exact ⟨C,D,A'',ys'',by rw [e1,f1],by rw [e2,f2],e3,f3,h2⟩
theorem cut_ok {A B:List α} (hA:Fall k A) (hB:Fall k B) {i j:Nat} (hi:i≤A.length) (hj:j≤B.length)
 (h1:i=0∨j=B.length∨∃ x y,A[i - 1]?=some x∧B[j]?=some y∧k y≤k x)
 (h2:i=A.length∨j=0∨∃ x y,A[i]?=some x∧B[j - 1]?=some y∧k x < k y) :
 mrg k A B=mrg k (A.take i) (B.take j)++mrg k (A.drop i) (B.drop j):=by
 have e:mrg k A B=mrg k (A.take i++A.drop i) (B.take j++B.drop j):=by rw [List.take_append_drop,List.take_append_drop]
 rw [e]
 refine mrg_app k ?_ ?_
 · intro b hb a ha
   rcases h2 with rfl | rfl | ⟨x,y,hx,hy,hlt⟩
   · rw [List.drop_length] at ha;cases ha
   · rw [List.take_zero] at hb;cases hb
   · have hj0:0 < j:=by
      rcases Nat.eq_zero_or_pos j with h | h
      · rw [h,List.take_zero] at hb;cases hb
      · exact h
     have:=(Fall.take k hA hx).2 a ha
     have h3:=(Fall.take k hB hy).1 b (by rw [Nat.sub_add_cancel hj0];exact hb)
     omega
 · intro a ha b hb
   rcases h1 with rfl | rfl | ⟨x,y,hx,hy,hle⟩
   · rw [List.take_zero] at ha;cases ha
   · rw [List.drop_length] at hb;cases hb
   · have hi0:0 < i:=by
      rcases Nat.eq_zero_or_pos i with h | h
      · rw [h,List.take_zero] at ha;cases ha
      · exact h
     have:=(Fall.take k hA hx).1 a (by rw [Nat.sub_add_cancel hi0];exact ha)
     have h3:=(Fall.take k hB hy).2 b hb
     omega
end
end

section
open Go.RowKit
theorem swap_up {α:Type} (L M:List α) (x y:α):(((L++x::y::M).set L.length y).set (L.length+1) x)=L++y::x::M:=by
 rw [List.set_append_right _ _ (by omega),Nat.sub_self,List.set_cons_zero,List.set_append_right _ _ (by omega),Nat.add_sub_cancel_left]
 rfl
theorem drop_at {α:Type} {l:List α} {i:Nat} {x:α} (h:l[i]?=some x):l.drop i=x::l.drop (i+1):=by
 obtain ⟨h1,h2⟩:=ζi.1 h
 rw [List.drop_eq_getElem_cons h1,h2]
theorem take_at {α:Type} {l:List α} {i:Nat} {x:α} (h:l[i]?=some x):l.take (i+1)=l.take i++[x]:=by rw [List.take_add_one,h];rfl
theorem symm_left (k:Int→Int) (c:Int→Int→Int) (fn:Nat) (lb:Array Value) (g cap:Nat) (P B S xs:List Int) (x:Int) (w:World) (hxs:xs=P++(x::(B++S))) (hrow:RowI w g cap xs) (hc:CmpAt k c fn lb g w) (hB:Fall k B) (hfew:xs.length≤1000000) :
 Calls Tryz.prog 272 #[.slice (some ⟨g,0,none⟩) xs.length cap,.int .i64 P.length,.int .i64 (P++[x]).length,.int .i64 (P++(x::B)).length,.func (.func fn) #[] lb] w fun e w' =>
  e=.returned (.tuple #[])∧Mod (fun b=>b=g) w w'∧RowI w' g cap (P++(mrg k [x] B++S)):=by
 obtain ⟨hlc,hmax⟩:=hrow.few
 unfold maxLen at hmax
 have hnl:xs.length=P.length+1+B.length+S.length:=by rw [hxs];simp;omega
 have hml:(P++[x]).length=P.length+1:=by simp
 have hbl:(P++(x::B)).length=P.length+1+B.length:=by simp;omega
 obtain ⟨n,hn⟩:∃ n,n=xs.length:=⟨_,rfl⟩
 obtain ⟨a,ha⟩:∃ a,a=P.length:=⟨_,rfl⟩
 obtain ⟨m,hm⟩:∃ m,m=(P++[x]).length:=⟨_,rfl⟩
 obtain ⟨b,hb⟩:∃ b,b=(P++(x::B)).length:=⟨_,rfl⟩
 rw [←hn] at hlc hfew
 rw [←hn,←ha,←hm,←hb]
 rw [hxs] at hrow
 have henter:=hc.enter
 have HC:=ζh hc
 have HR:=ζh hrow
 have HF:=ζh hB
 have Hn:=ζh (show n=a+1+B.length+S.length by omega)
 have Ha:=ζh ha
 have Hm:=ζh (show m=a+1 by omega)
 have Hb:=ζh (show b=a+1+B.length by omega)
 have HX:=ζh hfew
 have d0:wrap64 ((m:Int) - (a:Int))=1:=by unfold wrap64;omega
 have hab:(a:Int) < n:=by omega
 clear hn ha hm hb hnl hml hbl hxs hrow hc hB
 go_enter Tryz.func272,Tryz.ntmps272
 go_wp2_with fail
 clear d0
 go_loopw [10,11] (fun i j wr=>∃ p q:Nat,p≤q∧q≤B.length∧i=.int .i64 ((m+p:Nat):Int)∧j=.int .i64 ((m+q:Nat):Int)∧Hid ((∀ y∈B.take p,k x < k y)∧(∀ y∈B.drop q,k y≤k x))∧Mod (fun b=>b=g) w wr∧Hid (RowI wr g cap (P++(x::(B++S))))) (fun i j _=>(intOf j).toNat - (intOf i).toNat)
 case atStart=>exact ⟨0,B.length,by omega,by omega,by simp,by have:=Hb.out;have:=Hm.out;simp;omega,ζh (by simp),Mod.refl _ _,ζh HR.out⟩
 case round =>
  obtain ⟨p,q,hpq,hqB,rfl,rfl,HPQ,hmr,HRR⟩:=hrel
  obtain ⟨wo,rfl⟩:∃ wo:World,wo=wr:=⟨_,rfl⟩
  have HM:=ζh hmr
  clear hmr HR
  by_cases hlt:p < q
  · obtain ⟨h,hh⟩:∃ h,h=(p+q) / 2:=⟨_,rfl⟩
    obtain ⟨y,hy⟩:∃ y,B[h]?=some y:=⟨_,ζg (by omega)⟩
    have hbh:m+h < n:=by have:=Hb.out;have:=Hn.out;have:=Hm.out;omega
    obtain ⟨u,hu⟩:∃ u,u=m+h:=⟨_,rfl⟩
    have hhI:((m:Int)+p+((m:Int)+q)) / 2=(u:Int):=by omega
    have c0:=HRR.out.cell (j:=u) (x:=y) (by rw [List.getElem?_append_right (by rw [←Ha.out];have:=Hm.out;omega),←Ha.out,show u - a=h+1 by have:=Hm.out;omega,ζc,List.getElem?_append_left (by omega)];exact hy)
    have c1:=HRR.out.cell (j:=a) (x:=x) (by rw [List.getElem?_append_right (by rw [←Ha.out];omega),←Ha.out,Nat.sub_self];rfl)
    have dlt:decide (((m+p:Nat):Int) < ((m+q:Nat):Int))=true:=decide_eq_true (by omega)
    have i0:0≤(u:Int):=by omega
    have i1:(u:Int) < n:=by omega
    have hp0:m+p≤1000000:=by omega
    have hq0:m+q≤1000000:=by have:=Hb.out;have:=Hn.out;have:=Hm.out;omega
    have hcl:=fun w' h'=>HC.out.call y x w' h'
    have hless:=HC.out.less y x
    have hth:=(Fall.take k HF.out hy)
    have HTH:=ζh hth
    have HH:=ζh hh
    have HU:=ζh hu
    clear hth hh hbh hu
    cases hl2:decide (k x < k y)
    case false =>
     rw [hl2] at hless
     have HL:=ζh hl2
     clear hl2
     go_wp2_with fail
     go_still_tail 9,(by kernel_rfl)
     go_wp2_with fail
     refine (hcl _ HM.out.drew).mono ?_
     rintro e w1 ⟨rfl,hm1⟩
     go_wp2_with fail
     go_roundw
     case rel =>
      refine ⟨p,h,by have:=HH.out;omega,by have:=HH.out;omega,by go_num,by rw [HU.out],ζh ⟨HPQ.out.1,fun z hz=>?_⟩,HM.out.drew.trans (hm1.mono (fun _ x=>x.elim)),ζh (HRR.out.keep ((Mod.refl (fun _=>False) _).drew.trans hm1) (fun x=>x))⟩
      have h1:=HTH.out.2 z hz
      have h2:=HL.out
      simp at h2
      omega
     case measure=>simp [intOf];have:=HH.out;have:=HU.out;omega
    case true =>
     rw [hl2] at hless
     have HL:=ζh hl2
     clear hl2
     go_wp2_with fail
     go_still_tail 9,(by kernel_rfl)
     go_wp2_with fail
     refine (hcl _ HM.out.drew).mono ?_
     rintro e w1 ⟨rfl,hm1⟩
     go_wp2_with fail
     go_roundw
     case rel =>
      refine ⟨h+1,q,by have:=HH.out;omega,by omega,by rw [show m+(h+1)=u+1 by have:=HU.out;omega];go_num,by go_num,ζh ⟨fun z hz=>?_,HPQ.out.2⟩,HM.out.drew.trans (hm1.mono (fun _ x=>x.elim)),ζh (HRR.out.keep ((Mod.refl (fun _=>False) _).drew.trans hm1) (fun x=>x))⟩
      have h1:=HTH.out.1 z hz
      have h2:=HL.out
      simp at h2
      omega
     case measure=>simp [intOf];have:=HH.out;have:=HU.out;omega
  · obtain rfl:q=p:=by omega
    have hB1:∀ y∈B.take q,k x < k y:=HPQ.out.1
    have hB2:∀ y∈B.drop q,k y≤k x:=HPQ.out.2
    have hmrg:mrg k [x] B=B.take q++x::B.drop q:=by
     have:=mrg_one_left k hB1 hB2
     rwa [List.take_append_drop] at this
    have HG:=ζh hmrg
    have hmq:m+q≤n:=by have:=Hb.out;have:=Hn.out;have:=Hm.out;omega
    have hmI:IntKind.i64.wrap (((m+q:Nat):Int) - 1)=((a+q:Nat):Int):=by rw [wrap_small _ (by have:=Hm.out;omega) (by omega)];have:=Hm.out;omega
    have dlt:decide (((m+q:Nat):Int) < ((m+q:Nat):Int))=false:=decide_eq_false (by omega)
    clear HPQ hB1 hB2 hmrg hlt hpq
    go_wp2_with fail
    go_loopw [13] (fun i wr=>∃ t:Nat,t≤q∧i=.int .i64 ((a+t:Nat):Int)∧Mod (fun b=>b=g) w wr∧Hid (RowI wr g cap ((P++B.take t)++(x::(B.drop t++S))))) (fun i _=>a+q - (intOf i).toNat)
    case atStart=>exact ⟨0,by omega,by simp,HM.out,ζh (by simpa using HRR.out)⟩
    case round =>
     obtain ⟨t,ht,rfl,hmt,HRT⟩:=hrel
     obtain ⟨wi,rfl⟩:∃ wi:World,wi=wr:=⟨_,rfl⟩
     clear HM HRR
     have HM:=ζh hmt
     clear hmt
     by_cases hlt:t < q
     · obtain ⟨y,hy⟩:∃ y,B[t]?=some y:=⟨_,ζg (by omega)⟩
       obtain ⟨L,hL⟩:∃ L,L=P++B.take t:=⟨_,rfl⟩
       obtain ⟨M,hM⟩:∃ M,M=B.drop (t+1)++S:=⟨_,rfl⟩
       have hr2:RowI wi g cap (L++x::y::M):=by
        have:=HRT.out
        rw [drop_at hy] at this
        rw [hL,hM]
        simpa using this
       obtain ⟨u,hu⟩:∃ u,u=a+t:=⟨_,rfl⟩
       have hLl:L.length=u:=by rw [hL,List.length_append,List.length_take,←Ha.out];omega
       have hnext:(P++B.take (t+1))++(x::(B.drop (t+1)++S))=L++y::x::M:=by rw [take_at hy,hL,hM];simp
       have c0:=hr2.cell (get_app L (y::M) x)
       have c1:=hr2.cell (get_app1 L M y x)
       rw [hLl] at c0 c1
       have hs:=(hr2.set u y).set (u+1) x
       have hsw:=swap_up L M x y
       rw [hLl] at hsw
       rw [hsw] at hs
       have f0:=hr2.frozen u
       have f1:=hr2.frozen (u+1)
       have HS:=ζh hs
       have HN:=ζh hnext
       have e1:=(World.cell?_setCell_other wi ⟨g,u,none⟩ ⟨g,u+1,none⟩ (.int .i64 y) (by intro h;simp only [Addr.mk.injEq] at h;omega)).trans c1
       have g1:=(hr2.set u y).frozen (u+1)
       have i0:0≤(u:Int):=by omega
       have i1:(u:Int) < n:=by have:=Hm.out;omega
       have i2:0≤(u:Int)+1:=by omega
       have i3:(u:Int)+1 < n:=by have:=Hm.out;omega
       have dk:decide ((u:Int) < (m:Int)+(q:Int) - 1)=true:=decide_eq_true (by have:=Hm.out;omega)
       rw [←hu]
       have HU:=ζh hu
       clear hs hnext hy hL hM hLl hr2 hsw hu HRT
       go_wp2_with fail
       go_region
       go_wp2_with fail
       go_roundw
       case rel =>
        refine ⟨t+1,by omega,?_,((HM.out.setCell (.inl rfl) _).setCell (.inl rfl) _).drew,?_⟩
        · rw [show a+(t+1)=u+1 by have:=HU.out;omega];go_num
        · rw [HN.out];exact ζh (HS.out.keep (Mod.refl (fun _=>False) _).drew (fun x=>x))
       case measure=>simp [intOf];have:=HU.out;omega
     · obtain rfl:t=q:=by omega
       have hend:RowI wi g cap (P++(mrg k [x] B++S)):=by rw [HG.out];simpa using HRT.out
       have HE:=ζh hend
       have dk:decide ((a:Int)+(t:Int) < (m:Int)+(t:Int) - 1)=false:=decide_eq_false (by have:=Hm.out;omega)
       clear hend HRT
       go_wp2_with fail
       refine bodyPost_ret (results_none rfl _ _ _) rfl ?_
       exact ⟨rfl,HM.out,HE.out⟩
theorem symm_right (k:Int→Int) (c:Int→Int→Int) (fn:Nat) (lb:Array Value) (g cap:Nat) (P A S xs:List Int) (y:Int) (w:World) (hxs:xs=P++(A++(y::S))) (hrow:RowI w g cap xs) (hc:CmpAt k c fn lb g w) (hA:Fall k A) (hA2:1 < A.length) (hfew:xs.length≤1000000) :
 Calls Tryz.prog 272 #[.slice (some ⟨g,0,none⟩) xs.length cap,.int .i64 P.length,.int .i64 (P++A).length,.int .i64 (P++(A++[y])).length,.func (.func fn) #[] lb] w fun e w' =>
  e=.returned (.tuple #[])∧Mod (fun b=>b=g) w w'∧RowI w' g cap (P++(mrg k A [y]++S)):=by
 obtain ⟨hlc,hmax⟩:=hrow.few
 unfold maxLen at hmax
 have hnl:xs.length=P.length+A.length+1+S.length:=by rw [hxs];simp;omega
 have hml:(P++A).length=P.length+A.length:=by simp
 have hbl:(P++(A++[y])).length=P.length+A.length+1:=by simp;omega
 obtain ⟨n,hn⟩:∃ n,n=xs.length:=⟨_,rfl⟩
 obtain ⟨a,ha⟩:∃ a,a=P.length:=⟨_,rfl⟩
 obtain ⟨m,hm⟩:∃ m,m=(P++A).length:=⟨_,rfl⟩
 obtain ⟨b,hb⟩:∃ b,b=(P++(A++[y])).length:=⟨_,rfl⟩
 rw [←hn] at hlc hfew
 rw [←hn,←ha,←hm,←hb]
 rw [hxs] at hrow
 have henter:=hc.enter
 have HC:=ζh hc
 have HR:=ζh hrow
 have HF:=ζh hA
 have Hn:=ζh (show n=a+A.length+1+S.length by omega)
 have Ha:=ζh ha
 have Hm:=ζh (show m=a+A.length by omega)
 have Hb:=ζh (show b=m+1 by omega)
 have HX:=ζh hfew
 have d0:(wrap64 ((m:Int) - (a:Int))==1)=false:=by unfold wrap64;simp;omega
 have d1:wrap64 ((b:Int) - (m:Int))=1:=by unfold wrap64;omega
 have hmb:(m:Int) < n:=by omega
 clear hn ha hm hb hnl hml hbl hxs hrow hc hA hA2
 go_enter Tryz.func272,Tryz.ntmps272
 go_wp2_with fail
 clear d0 d1
 go_loopw [14,15] (fun i j wr=>∃ p q:Nat,p≤q∧q≤A.length∧i=.int .i64 ((a+p:Nat):Int)∧j=.int .i64 ((a+q:Nat):Int)∧Hid ((∀ z∈A.take p,k y≤k z)∧(∀ z∈A.drop q,k z < k y))∧Mod (fun b=>b=g) w wr∧Hid (RowI wr g cap (P++(A++(y::S))))) (fun i j _=>(intOf j).toNat - (intOf i).toNat)
 case atStart=>exact ⟨0,A.length,by omega,by omega,by simp,by have:=Hm.out;simp;omega,ζh (by simp),Mod.refl _ _,ζh HR.out⟩
 case round =>
  obtain ⟨p,q,hpq,hqB,rfl,rfl,HPQ,hmr,HRR⟩:=hrel
  obtain ⟨wo,rfl⟩:∃ wo:World,wo=wr:=⟨_,rfl⟩
  have HM:=ζh hmr
  clear hmr HR
  by_cases hlt:p < q
  · obtain ⟨h,hh⟩:∃ h,h=(p+q) / 2:=⟨_,rfl⟩
    obtain ⟨z,hz⟩:∃ z,A[h]?=some z:=⟨_,ζg (by omega)⟩
    have hbh:a+h < m:=by have:=Hm.out;omega
    obtain ⟨u,hu⟩:∃ u,u=a+h:=⟨_,rfl⟩
    have hhI:((a:Int)+p+((a:Int)+q)) / 2=(u:Int):=by omega
    have c0:=HRR.out.cell (j:=u) (x:=z) (by rw [List.getElem?_append_right (by rw [←Ha.out];omega),←Ha.out,show u - a=h by omega,List.getElem?_append_left (by omega)];exact hz)
    have c1:=HRR.out.cell (j:=m) (x:=y) (by rw [List.getElem?_append_right (by rw [←Ha.out];omega),←Ha.out,List.getElem?_append_right (by have:=Hm.out;omega),show m - a - A.length=0 by have:=Hm.out;omega];rfl)
    have dlt:decide (((a+p:Nat):Int) < ((a+q:Nat):Int))=true:=decide_eq_true (by omega)
    have i0:0≤(u:Int):=by omega
    have i1:(u:Int) < n:=by omega
    have hp0:a+p≤1000000:=by omega
    have hq0:a+q≤1000000:=by have:=Hn.out;have:=Hm.out;omega
    have hcl:=fun w' h'=>HC.out.call y z w' h'
    have hless:=HC.out.less y z
    have hth:=(Fall.take k HF.out hz)
    have HTH:=ζh hth
    have HH:=ζh hh
    have HU:=ζh hu
    clear hth hh hbh hu
    cases hl2:decide (k z < k y)
    case false =>
     rw [hl2] at hless
     have HL:=ζh hl2
     clear hl2
     go_wp2_with fail
     go_still_tail 9,(by kernel_rfl)
     go_wp2_with fail
     refine (hcl _ HM.out.drew).mono ?_
     rintro e w1 ⟨rfl,hm1⟩
     go_wp2_with fail
     go_roundw
     case rel =>
      refine ⟨h+1,q,by have:=HH.out;omega,by omega,by rw [show a+(h+1)=u+1 by have:=HU.out;omega];go_num,by go_num,ζh ⟨fun v hv=>?_,HPQ.out.2⟩,HM.out.drew.trans (hm1.mono (fun _ x=>x.elim)),ζh (HRR.out.keep ((Mod.refl (fun _=>False) _).drew.trans hm1) (fun x=>x))⟩
      have h1:=HTH.out.1 v hv
      have h2:=HL.out
      simp at h2
      omega
     case measure=>simp [intOf];have:=HH.out;have:=HU.out;omega
    case true =>
     rw [hl2] at hless
     have HL:=ζh hl2
     clear hl2
     go_wp2_with fail
     go_still_tail 9,(by kernel_rfl)
     go_wp2_with fail
     refine (hcl _ HM.out.drew).mono ?_
     rintro e w1 ⟨rfl,hm1⟩
     go_wp2_with fail
     go_roundw
     case rel =>
      refine ⟨p,h,by have:=HH.out;omega,by have:=HH.out;omega,by go_num,by rw [HU.out],ζh ⟨HPQ.out.1,fun v hv=>?_⟩,HM.out.drew.trans (hm1.mono (fun _ x=>x.elim)),ζh (HRR.out.keep ((Mod.refl (fun _=>False) _).drew.trans hm1) (fun x=>x))⟩
      have h1:=HTH.out.2 v hv
      have h2:=HL.out
      simp at h2
      omega
     case measure=>simp [intOf];have:=HH.out;have:=HU.out;omega
  · obtain rfl:q=p:=by omega
    have hB1:∀ z∈A.take q,k y≤k z:=HPQ.out.1
    have hB2:∀ z∈A.drop q,k z < k y:=HPQ.out.2
    have hmrg:mrg k A [y]=A.take q++y::A.drop q:=by
     have:=mrg_one_right k hB1 hB2
     rwa [List.take_append_drop] at this
    have HG:=ζh hmrg
    have dlt:decide (((a+q:Nat):Int) < ((a+q:Nat):Int))=false:=decide_eq_false (by omega)
    clear HPQ hB1 hB2 hmrg hlt hpq
    go_wp2_with fail
    go_loopw [17] (fun i wr=>∃ t v:Nat,q≤t∧t≤A.length∧v=a+t∧i=.int .i64 (v:Int)∧Mod (fun b=>b=g) w wr∧Hid (RowI wr g cap ((P++A.take t)++(y::(A.drop t++S))))) (fun i _=>(intOf i).toNat)
    case atStart=>exact ⟨A.length,m,by omega,by omega,Hm.out,by go_num,HM.out,ζh (by simpa using HRR.out)⟩
    case round =>
     obtain ⟨t,v,hqt,htl,hv,rfl,hmt,HRT⟩:=hrel
     obtain ⟨wi,rfl⟩:∃ wi:World,wi=wr:=⟨_,rfl⟩
     clear HM HRR
     have HM:=ζh hmt
     clear hmt
     by_cases hlt:q < t
     · obtain ⟨s,rfl⟩:∃ s,t=s+1:=⟨t - 1,by omega⟩
       obtain ⟨z,hz⟩:∃ z,A[s]?=some z:=⟨_,ζg (by omega)⟩
       obtain ⟨L,hL⟩:∃ L,L=P++A.take s:=⟨_,rfl⟩
       obtain ⟨M,hM⟩:∃ M,M=A.drop (s+1)++S:=⟨_,rfl⟩
       have hr2:RowI wi g cap (L++z::y::M):=by
        have:=HRT.out
        rw [take_at hz] at this
        rw [hL,hM]
        simpa using this
       obtain ⟨u,hu⟩:∃ u,u=a+s:=⟨_,rfl⟩
       obtain rfl:v=u+1:=by omega
       have hLl:L.length=u:=by rw [hL,List.length_append,List.length_take,←Ha.out];omega
       have hnext:(P++A.take s)++(y::(A.drop s++S))=L++y::z::M:=by rw [drop_at hz,hL,hM];simp
       have c0:=hr2.cell (get_app L (y::M) z)
       have c1:=hr2.cell (get_app1 L M y z)
       rw [hLl] at c0 c1
       have hs:=(hr2.set (u+1) z).set u y
       rw [←hLl,swap_set,hLl] at hs
       have f0:=hr2.frozen u
       have f1:=hr2.frozen (u+1)
       have HS:=ζh hs
       have HN:=ζh hnext
       have hi0:(0:Int)≤(u:Int):=by omega
       have hi1:(u:Int)+1 < n:=by have:=Hm.out;have:=Hn.out;omega
       have hi3:((u+1:Nat):Int) < n:=by omega
       have hi4:0≤((u+1:Nat):Int):=by omega
       have hi5:0≤(u:Int)+1:=by omega
       have hwr:IntKind.i64.wrap (u:Int)=(u:Int):=wrap_small _ (by omega) (by omega)
       have hi2:(u:Int) < n:=by omega
       have dk:decide ((a:Int)+(q:Int) < (u:Int)+1)=true:=decide_eq_true (by omega)
       have HU:=ζh hu
       clear hs hnext hz hL hM hLl hr2 hu HRT hv
       go_wp2_with fail
       go_region
       go_wp2_with fail
       go_roundw
       case rel =>
        refine ⟨s,u,by omega,by omega,HU.out,by go_num,((HM.out.setCell (.inl rfl) _).setCell (.inl rfl) _).drew,?_⟩
        rw [HN.out];exact ζh (HS.out.keep (Mod.refl (fun _=>False) _).drew (fun x=>x))
       case measure=>simp [intOf]
     · obtain rfl:t=q:=by omega
       have hend:RowI wi g cap (P++(mrg k A [y]++S)):=by rw [HG.out];simpa using HRT.out
       have HE:=ζh hend
       have dk:decide ((a:Int)+(t:Int) < (v:Int))=false:=decide_eq_false (by omega)
       have HV:=ζh hv
       clear hend HRT hv
       go_wp2_with fail
       refine bodyPost_ret (results_none rfl _ _ _) rfl ?_
       exact ⟨rfl,HM.out,HE.out⟩
end
end Go.Proofs.YtkfoeonggmlebaaGreatDoor
