/-
  Contracts of the program's functions, and plain facts, towards the laws of millpondtop. No condition beyond those that each theorem bears.
-/
import Derived.Test.YtkfoeonggmlebaaGreatDoorQ05
import Derived.Test.YtkfoeonggmlebaaGreatDoorQ13
import Derived.Test.YtkfoeonggmlebaaGreatDoorQ14
import Derived.Test.YtkfoeonggmlebaaGreatDoorQ20
import Derived.Test.YtkfoeonggmlebaaGreatDoorQ23
import Derived.Test.YtkfoeonggmlebaaGreatDoorQAA
set_option maxRecDepth 100000
set_option maxHeartbeats 4000000
namespace Go.Proofs.YtkfoeonggmlebaaGreatDoor
namespace Pro
open Go.RowKit
theorem validF_at:∀ (l:List Nd) (i:Nat),validF i l=true→∀ (k:Nat) (x:Nd),l[k]?=some x→okN (i+k) x=true:=by
 intro l
 induction l with
 | nil=>intro i _ k x h;simp at h
 | cons y l ih =>
   intro i h k x hk
   simp only [validF,Bool.and_eq_true] at h
   cases k with
   | zero=>simp at hk;subst hk;exact h.1
   | succ k =>
     simp at hk
     have:=ih (i+1) h.2 k x hk
     rw [show i+(k+1)=i+1+k by omega]
     exact this
theorem nd_at {l:List Nd} {k:Nat} {x:Nd} (h:l[k]?=some x):nd l (k:Int)=x:=by
 unfold nd;rw [Int.toNat_natCast,List.getD_eq_getElem?_getD,h];rfl
theorem valid_up {l:List Nd} (h:validN l=true) {k:Nat} {x:Nd} (hk:l[k]?=some x):((k=0∧x.up=-1)∨(0≤x.up∧x.up < k))∧(0≤x.use∧x.use≤1099511627776)∧(0≤x.own∧x.own≤1099511627776):=by
 unfold validN at h
 rw [Bool.and_eq_true] at h
 have:=validF_at l 0 h.1 k x hk
 unfold okN Cnt.amountB at this
 simp only [Bool.and_eq_true,Bool.or_eq_true,decide_eq_true_eq,beq_iff_eq] at this
 omega
theorem valid_len {l:List Nd} (h:validN l=true):l.length≤64:=by
 unfold validN at h
 rw [Bool.and_eq_true,decide_eq_true_eq] at h
 exact h.2
theorem upN_fuel {l:List Nd} (h:validN l=true) (t:Int):∀ (n n':Nat) (g:Int),(g+1).toNat+1≤n→(g+1).toNat+1≤n'→(g < 0∨g < l.length)→upN n l g t=upN n' l g t:=by
 intro n
 induction n with
 | zero=>intro n' g h1;omega
 | succ n ih =>
   intro n' g h1 h2 hg
   cases n' with
   | zero=>omega
   | succ n' =>
     simp only [upN]
     by_cases h3:g=t
     · simp [h3]
     · simp only [h3,if_false]
       by_cases h4:g < 0
       · simp [h4]
       · simp only [h4,if_false]
         congr 1
         obtain ⟨k,rfl⟩:∃ k:Nat,g=k:=⟨g.toNat,by omega⟩
         have hk:k < l.length:=by omega
         have hx:l[k]?=some l[k]:=ζg hk
         rw [nd_at hx]
         have hv:=(valid_up h hx).1
         refine ih n' _ (by omega) (by omega) (by omega)
theorem upsN_cons {l:List Nd} (h:validN l=true) {t:Int} {k:Nat} {x:Nd} (hk:l[k]?=some x) (hne:(k:Int)≠t):upsN l k t=(k:Int)::upsN l x.up t:=by
 have hlt:=(ζi.1 hk).1
 have hv:=(valid_up h hk).1
 unfold upsN
 rw [show (((k:Int)+1).toNat+1)=(k+1)+1 by omega,upN,if_neg hne,if_neg (by omega),nd_at hk]
 congr 1
 exact upN_fuel h t _ _ _ (by omega) (by omega) (by omega)
theorem upsN_end (l:List Nd) (t:Int):upsN l t t=[]:=by
 unfold upsN
 rw [upN,if_pos rfl]
theorem upsN_neg (l:List Nd) {t:Int} (h:t≠-1):upsN l (-1) t=[-1]:=by
 unfold upsN
 rw [upN,if_neg (fun e=>h e.symm),if_pos (by omega)]
end Pro

namespace Pro
open Go.RowKit
def ecNd (x:Nd):List Value:=[.int .i64 x.up,.int .i64 x.use,.int .i64 x.own]
theorem ecNd_len (x:Nd):(ecNd x).length=3:=rfl
theorem pramount_any (n:Int) (w:World):Calls Tryz.prog 242 #[.int .i64 n] w fun e w'=>e=.returned (.bool (Cnt.amountB n))∧w=w':=by
 unfold Cnt.amountB
 by_cases h:0≤n
 · have h':decide (0≤n)=true:=by simp [h]
   rw [h',Bool.true_and]
   clear h
   go_enter Tryz.func242,Tryz.ntmps242
   go_wp2_with fail
   go_ret
   exact ⟨rfl,rfl⟩
 · have h':decide (0≤n)=false:=by simp;omega
   rw [h',Bool.false_and]
   clear h
   go_enter Tryz.func242,Tryz.ntmps242
   go_wp2_with fail
   go_ret
   exact ⟨rfl,rfl⟩
theorem prown_any (x:Nd) (w:World):Calls Tryz.prog 206 #[.agg (ecNd x).toArray] w fun e w'=>e=.returned (.int .i64 (ownN x))∧Mod (fun _=>False) w w':=by
 unfold ecNd ownN
 go_enter Tryz.func206,Tryz.ntmps206
 go_wp2_with fail
 go_ret
 refine ⟨?_,Mod.alloc' _ _ _⟩
 congr 1
 try (rw [Int.min_def])
theorem mul64_any (x y:Nat) (hx:x < 4294967296) (hy:y < 4294967296) (w:World):Calls Tryz.prog 213 #[.int .u64 x,.int .u64 y] w fun e w'=>e=.returned (.tuple #[.int .u64 0,.int .u64 ((x * y:Nat):Int)])∧w=w':=by
 have hmask:∀ k:Nat,k < 4294967296→bits .and .u64 (k:Int) 4294967295=(k:Int):=by
  intro k hk
  have a1:=and_u k 4294967295 (by omega) (by omega)
  have e1:k &&& 4294967295=k:=by
   have:=Nat.and_two_pow_sub_one_eq_mod k 32
   rw [show 2 ^ 32 - 1=4294967295 from rfl] at this
   rw [this];omega
  rw [e1] at a1
  exact a1
 have a1:=hmask x hx
 have a2:=hmask y hy
 have hx0:(x:Int) / 4294967296=0:=by omega
 have hy0:(y:Int) / 4294967296=0:=by omega
 obtain ⟨p,hp⟩:∃ p,p=x * y:=⟨_,rfl⟩
 have hpl:p < 18446744073709551616:=by
  have h1:x * y≤4294967295 * 4294967295:=Nat.mul_le_mul (by omega) (by omega)
  omega
 have hpi:(x:Int) * (y:Int)=(p:Int):=by rw [hp,Int.natCast_mul]
 have hwp:=wrapU p hpl
 obtain ⟨q,hq⟩:∃ q,q=p / 4294967296:=⟨_,rfl⟩
 have hql:q < 4294967296:=by omega
 have hqi:(p:Int) / 4294967296=(q:Int):=by rw [hq];omega
 have hwq:=wrapU q (by omega)
 have a3:=hmask q hql
 have hq0:(q:Int) / 4294967296=0:=by omega
 rw [←hp]
 have H:=ζh (And.intro hpi (And.intro hwp (And.intro hqi (And.intro hwq (And.intro a3 (And.intro hq0 (And.intro a1 (And.intro a2 (And.intro hx0 hy0)))))))))
 clear hp hq hpl hmask hpi hwp hqi hwq a3 hq0 hql a1 a2 hx0 hy0
 go_enter Tryz.func213,Tryz.ntmps213
 go_wp2_with fail
 go_ret2
 obtain ⟨hpi,hwp,hqi,hwq,a3,hq0,a1,a2,hx0,hy0⟩:=H.out
 have hw0:IntKind.u64.wrap 0=0:=by decide
 refine ⟨congrArg Ending.returned ?_,rfl⟩
 simp only [a1,a2,hx0,hy0,hpi,hwp,hqi,hwq,Int.zero_mul,Int.mul_zero,Int.zero_add,Int.add_zero,hw0,a3,hq0]
 rfl
theorem div64_any (l y:Nat) (hl:l < 18446744073709551616) (hy:0 < y∧y < 18446744073709551616) (w:World):Calls Tryz.prog 214 #[.int .u64 0,.int .u64 l,.int .u64 y] w fun e w'=>e=.returned (.tuple #[.int .u64 ((l / y:Nat):Int),.int .u64 ((l%y:Nat):Int)])∧∃ n,w.drewN n=w':=by
 have d0:((y:Int)==0)=false:=by rw [beq_eq_false_iff_ne];omega
 have d1:decide ((y:Int)≤0)=false:=decide_eq_false (by omega)
 obtain ⟨q,hq⟩:∃ q,q=l / y:=⟨_,rfl⟩
 obtain ⟨r,hr⟩:∃ r,r=l%y:=⟨_,rfl⟩
 have hql:q < 18446744073709551616:=by rw [hq];exact Nat.lt_of_le_of_lt (Nat.div_le_self _ _) hl
 have hrl:r < 18446744073709551616:=by rw [hr];exact Nat.lt_of_lt_of_le (Nat.mod_lt _ hy.1) (by omega)
 have H:=ζh (And.intro hq hr)
 rw [←hq,←hr]
 have hne:(y:Int)≠0:=by omega
 have hwq:=wrapU q hql
 have hdq:(l:Int) / (y:Int)=(q:Int):=by rw [hq];rfl
 have hdr:(l:Int)%(y:Int)=(r:Int):=by rw [hr];rfl
 have H2:=ζh (And.intro hwq (And.intro hdq hdr))
 clear hq hr hwq hdq hdr
 go_enter Tryz.func214,Tryz.ntmps214
 go_wp2_with fail
 go_quiet (fail)
 go_wp2_with fail
 go_ret2
 obtain ⟨hwq,hdq,hdr⟩:=H2.out
 refine ⟨congrArg Ending.returned ?_,⟨_,rfl⟩⟩
 simp only [hdq,hdr,hwq]
 rfl
theorem part_any (a p s:Nat) (ha:a < 4294967296) (hp:p < 4294967296) (hs:0 < s∧s < 4294967296) (hps:p < s) (w:World):Calls Tryz.prog 208 #[.int .i64 a,.int .i64 p,.int .i64 s] w fun e w'=>e=.returned (.int .i64 (partN a p s))∧Mod (fun _=>False) w w':=by
 have hap:a * p < 18446744073709551616:=by
  have h1:a * p≤4294967295 * 4294967295:=Nat.mul_le_mul (by omega) (by omega)
  omega
 have hm:=mul64_any a p ha hp w
 obtain ⟨m,hmm⟩:∃ m,m=a * p:=⟨_,rfl⟩
 rw [←hmm] at hm hap
 have hd:=fun w=>div64_any m s hap (by omega) w
 obtain ⟨q,hq⟩:∃ q,q=m / s:=⟨_,rfl⟩
 rw [←hq] at hd
 have hqa:q≤a:=by
  rw [hq,hmm]
  calc a * p / s≤a * s / s:=Nat.div_le_div_right (Nat.mul_le_mul_left _ (by omega))
   _=a:=Nat.mul_div_cancel _ hs.1
 have hr:partN a p s=(q:Int):=by
  unfold partN
  rw [hq,hmm]
  push_cast
  rfl
 rw [hr]
 have hql:q < 9223372036854775808:=by omega
 have hwa:=wrapU a (by omega)
 have hwp:=wrapU p (by omega)
 have hws:=wrapU s (by omega)
 have hwq:IntKind.i64.wrap (q:Int)=q:=wrap_small _ (by omega) (by omega)
 have HM:=ζh hm
 have HD:=ζh hd
 clear hm hd hq hmm hr hqa hap
 go_enter Tryz.func208,Tryz.ntmps208
 go_wp2_with fail
 refine HM.out.mono ?_
 rintro e w1 ⟨rfl,rfl⟩
 go_wp2_with fail
 refine (HD.out _).mono ?_
 rintro e w2 ⟨rfl,k,rfl⟩
 go_wp2_with fail
 go_ret
 exact ⟨rfl,Mod.drewN' _ _ _⟩
end Pro

namespace Pro
open Go.RowKit Go.Shelf
attribute [local go_sem] Oper.semAt_some
theorem nd_cells {w:World} {a:Option Addr} {n c:Nat} {l:List Nd} (h:RowsAt ecNd 3 w (.slice a n c) l) {j:Nat} {x:Nd} (hj:l[j]?=some x):∃ b off,a=some ⟨b,off,none⟩ ∧
 w.cell? ⟨b,off+j * 3,none⟩=some (.int .i64 x.up)∧w.cell? ⟨b,off+j * 3+1,none⟩=some (.int .i64 x.use)∧w.cell? ⟨b,off+j * 3+2,none⟩=some (.int .i64 x.own):=by
 obtain ⟨a',cap,h1,h2,h3,h4⟩:=h
 injection h1 with e1 e2 e3
 subst e1
 obtain ⟨b,off,h5,h6⟩:=h4 j _ hj
 exact ⟨b,off,h5,by have:=h6 0 (by omega);simp only [Nat.add_zero] at this;exact this,h6 1 (by omega),h6 2 (by omega)⟩
theorem rows_form {α:Type} {ec:α→List Value} {sz:Nat} {w:World} {v:Value} {xs:List α} (h:RowsAt ec sz w v xs):∃ a c,v=.slice a xs.length c∧xs.length≤c∧c≤maxLen:=by
 obtain ⟨a,c,h1,h2,h3,_⟩:=h
 exact ⟨a,c,h1,h2,h3⟩
theorem validF_take {l:List Nd} {k:Nat} (h:∀ (j:Nat) (x:Nd),j < k→l[j]?=some x→okN j x=true) {x:Nd} (hk:l[k]?=some x) (hx:okN k x=false):validN l=false:=by
 cases hv:validN l with
 | false=>rfl
 | true =>
   unfold validN at hv
   rw [Bool.and_eq_true] at hv
   have:=validF_at l 0 hv.1 k x hk
   rw [Nat.zero_add,hx] at this
   cases this
theorem validF_all:∀ (l:List Nd) (i:Nat),(∀ (j:Nat) (x:Nd),l[j]?=some x→okN (i+j) x=true)→validF i l=true:=by
 intro l
 induction l with
 | nil=>intro i _;rfl
 | cons y l ih =>
   intro i h
   simp only [validF,Bool.and_eq_true]
   refine ⟨h 0 y rfl,ih (i+1) (fun j x hx=>?_)⟩
   have:=h (j+1) x (by simpa using hx)
   rwa [show i+(j+1)=i+1+j by omega] at this
theorem prvalid_any (l:List Nd) (v:Value) (w:World) (h:RowsAt ecNd 3 w v l):Calls Tryz.prog 205 #[v] w fun e w'=>e=.returned (.bool (validN l))∧Mod (fun _=>False) w w':=by
 obtain ⟨a,c,rfl,hcap,hmax⟩:=rows_form h
 unfold maxLen at hmax
 obtain ⟨r,hr⟩:∃ r,r=validN l:=⟨_,rfl⟩
 rw [←hr]
 have HR:=ζh hr
 have HH:=ζh h
 clear hr h
 go_enter Tryz.func205,Tryz.ntmps205
 go_wp2_with fail
 go_loopw [8] (fun i wr=>∃ k:Nat,k≤l.length∧i=.int .i64 k∧(∀ (j:Nat) (x:Nd),j < k→l[j]?=some x→okN j x=true)∧Mod (fun _=>False) w wr) (fun i _=>l.length - (intOf i).toNat)
 case atStart=>exact ⟨0,by omega,rfl,(fun j x hj=>by omega),Mod.refl _ _⟩
 case round =>
  obtain ⟨k,hk,rfl,hn,hm⟩:=hrel
  obtain ⟨wo,rfl⟩:∃ wo:World,wo=wr:=⟨_,rfl⟩
  by_cases hlt:k < l.length
  · obtain ⟨x,hx⟩:∃ x,l[k]?=some x:=⟨_,ζg hlt⟩
    obtain ⟨b,off,rfl,c0,c1,c2⟩:=nd_cells (HH.out.keep ecNd_len hm (fun _ _ x=>x)) hx
    have hi0:(0:Int)≤(k:Int):=by omega
    have hi1:(k:Int) < l.length:=by omega
    have hbad:okN k x=false→r=false:=fun h=>by rw [HR.out];exact validF_take hn hx h
    have hgood:okN k x=true→∀ (j:Nat) (y:Nd),j < k+1→l[j]?=some y→okN j y=true:=by
     intro h j y hj hy
     by_cases e:j=k
     · subst e;rw [hx] at hy;injection hy with hy;rw [←hy];exact h
     · exact hn j y (by omega) hy
    have HB:=ζh hbad
    have HG:=ζh hgood
    obtain ⟨xu,xs,xo⟩:=x
    simp only at c0 c1 c2
    have hau:=fun w=>pramount_any xs w
    have hao:=fun w=>pramount_any xo w
    obtain ⟨U,hU⟩:∃ U,U=Cnt.amountB xs:=⟨_,rfl⟩
    obtain ⟨O,hO⟩:∃ O,O=Cnt.amountB xo:=⟨_,rfl⟩
    rw [←hU] at hau
    rw [←hO] at hao
    have hok:okN k ⟨xu,xs,xo⟩=((((k==0)&&(xu==-1))||(decide (0≤xu)&&decide (xu < k)))&&U&&O):=by rw [hU,hO];rfl
    have HK:=ζh hok
    have HU:=ζh hau
    have HO:=ζh hao
    clear hn hx hbad hgood hok hU hO hau hao
    by_cases h1:k=0
    · subst h1
      simp only [Nat.zero_mul,Nat.add_zero] at c0 c1 c2
      by_cases h2:xu=-1
      · subst h2
        cases U with
        | false =>
          have f1:decide ((-1:Int) < 0)=true:=by decide
          obtain rfl:r=false:=HB.out (by rw [HK.out];simp [])
          clear HK
          go_wp2_with (first | (go_at_call 242;refine (HU.out _).mono ?_;rintro e w3 ⟨rfl,rfl⟩) | (go_at_call 242;refine (HO.out _).mono ?_;rintro e w4 ⟨rfl,rfl⟩))
          go_ret
          exact ⟨rfl,hm.trans (Mod.alloc' _ _ _)⟩
        | true =>
          cases O with
          | false =>
            have f1:decide ((-1:Int) < 0)=true:=by decide
            obtain rfl:r=false:=HB.out (by rw [HK.out];simp [])
            clear HK
            go_wp2_with (first | (go_at_call 242;refine (HU.out _).mono ?_;rintro e w3 ⟨rfl,rfl⟩) | (go_at_call 242;refine (HO.out _).mono ?_;rintro e w4 ⟨rfl,rfl⟩))
            go_ret
            exact ⟨rfl,hm.trans (Mod.alloc' _ _ _)⟩
          | true =>
            have f1:decide ((-1:Int) < 0)=true:=by decide
            have hnx:=ζh (HG.out (by rw [HK.out];simp []))
            clear HK
            go_wp2_with (first | (go_at_call 242;refine (HU.out _).mono ?_;rintro e w3 ⟨rfl,rfl⟩) | (go_at_call 242;refine (HO.out _).mono ?_;rintro e w4 ⟨rfl,rfl⟩))
            go_roundw
            case rel=>exact ⟨0+1,by omega,by go_num,hnx.out,hm.trans (Mod.alloc' _ _ _)⟩
            case measure=>simp [intOf];omega
      · have f2:(xu==-1)=false:=by rw [beq_eq_false_iff_ne];exact h2
        by_cases h3:xu < 0
        · have f3:decide (xu < 0)=true:=decide_eq_true h3
          have f5:decide (0≤xu)=false:=decide_eq_false (by omega)
          obtain rfl:r=false:=HB.out (by rw [HK.out];simp [f2,f5])
          clear HK
          go_wp2_with (first | (go_at_call 242;refine (HU.out _).mono ?_;rintro e w3 ⟨rfl,rfl⟩) | (go_at_call 242;refine (HO.out _).mono ?_;rintro e w4 ⟨rfl,rfl⟩))
          go_ret
          exact ⟨rfl,hm.trans (Mod.alloc' _ _ _)⟩
        · have f3:decide (xu < 0)=false:=decide_eq_false h3
          have f4:decide ((0:Int)≤xu)=true:=decide_eq_true (by omega)
          have f6:decide (xu < 0)=false:=decide_eq_false (by omega)
          obtain rfl:r=false:=HB.out (by rw [HK.out];simp [f2,f6])
          clear HK
          go_wp2_with (first | (go_at_call 242;refine (HU.out _).mono ?_;rintro e w3 ⟨rfl,rfl⟩) | (go_at_call 242;refine (HO.out _).mono ?_;rintro e w4 ⟨rfl,rfl⟩))
          go_ret
          exact ⟨rfl,hm.trans (Mod.alloc' _ _ _)⟩
    · have f1:((k:Int)==0)=false:=by rw [beq_eq_false_iff_ne];omega
      have g1:(k==0)=false:=by rw [beq_eq_false_iff_ne];exact h1
      by_cases h3:xu < 0
      · have f3:decide (xu < 0)=true:=decide_eq_true h3
        have f5:decide (0≤xu)=false:=decide_eq_false (by omega)
        obtain rfl:r=false:=HB.out (by rw [HK.out];simp [g1,f5])
        clear HK
        go_wp2_with (first | (go_at_call 242;refine (HU.out _).mono ?_;rintro e w3 ⟨rfl,rfl⟩) | (go_at_call 242;refine (HO.out _).mono ?_;rintro e w4 ⟨rfl,rfl⟩))
        go_ret
        exact ⟨rfl,hm.trans (Mod.alloc' _ _ _)⟩
      · have f3:decide (xu < 0)=false:=decide_eq_false h3
        by_cases h4:(k:Int)≤xu
        · have f4:decide ((k:Int)≤xu)=true:=decide_eq_true h4
          have f6:decide (xu < (k:Int))=false:=decide_eq_false (by omega)
          obtain rfl:r=false:=HB.out (by rw [HK.out];simp [g1,f6])
          clear HK
          go_wp2_with (first | (go_at_call 242;refine (HU.out _).mono ?_;rintro e w3 ⟨rfl,rfl⟩) | (go_at_call 242;refine (HO.out _).mono ?_;rintro e w4 ⟨rfl,rfl⟩))
          go_ret
          exact ⟨rfl,hm.trans (Mod.alloc' _ _ _)⟩
        · have f4:decide ((k:Int)≤xu)=false:=decide_eq_false h4
          cases U with
          | false =>
            have f6:decide (xu < (k:Int))=true:=decide_eq_true (by omega)
            have f5:decide (0≤xu)=true:=decide_eq_true (by omega)
            obtain rfl:r=false:=HB.out (by rw [HK.out];simp [g1,f5,f6])
            clear HK
            go_wp2_with (first | (go_at_call 242;refine (HU.out _).mono ?_;rintro e w3 ⟨rfl,rfl⟩) | (go_at_call 242;refine (HO.out _).mono ?_;rintro e w4 ⟨rfl,rfl⟩))
            go_ret
            exact ⟨rfl,hm.trans (Mod.alloc' _ _ _)⟩
          | true =>
            cases O with
            | false =>
              have f6:decide (xu < (k:Int))=true:=decide_eq_true (by omega)
              have f5:decide (0≤xu)=true:=decide_eq_true (by omega)
              obtain rfl:r=false:=HB.out (by rw [HK.out];simp [g1,f5,f6])
              clear HK
              go_wp2_with (first | (go_at_call 242;refine (HU.out _).mono ?_;rintro e w3 ⟨rfl,rfl⟩) | (go_at_call 242;refine (HO.out _).mono ?_;rintro e w4 ⟨rfl,rfl⟩))
              go_ret
              exact ⟨rfl,hm.trans (Mod.alloc' _ _ _)⟩
            | true =>
              have f6:decide (xu < (k:Int))=true:=decide_eq_true (by omega)
              have f5:decide (0≤xu)=true:=decide_eq_true (by omega)
              have hnx:=ζh (HG.out (by rw [HK.out];simp [g1,f5,f6]))
              clear HK
              go_wp2_with (first | (go_at_call 242;refine (HU.out _).mono ?_;rintro e w3 ⟨rfl,rfl⟩) | (go_at_call 242;refine (HO.out _).mono ?_;rintro e w4 ⟨rfl,rfl⟩))
              go_roundw
              case rel=>exact ⟨k+1,by omega,by go_num,hnx.out,hm.trans (Mod.alloc' _ _ _)⟩
              case measure=>simp [intOf];omega
  · obtain rfl:k=l.length:=by omega
    have hv:r=decide ((l.length:Int)≤64):=by
     rw [HR.out];unfold validN
     rw [validF_all l 0 (fun j x hj=>by rw [Nat.zero_add];exact hn j x (ζi.1 hj).1 hj),Bool.true_and]
     exact decide_eq_decide.2 (by omega)
    have HV:=ζh hv
    clear hn hv
    go_wp2_with fail
    go_ret
    refine ⟨?_,hm⟩
    rw [HV.out]
    first | rfl | (congr 2;exact decide_eq_decide.2 (by omega))
end Pro

namespace Pro
open Go.RowKit Go.Shelf
attribute [local go_sem] Oper.semAt_some
theorem prup_any (a:Option Addr) (n c:Nat) (g t:Int) (w:World):Calls Tryz.prog 210 #[.slice a n c,.int .i64 g,.int .i64 t] w fun e w' =>
 e=.returned (.func (.func 243) #[] #[.pointer (some ⟨w.heap.size+1,0,none⟩),.pointer (some ⟨w.heap.size+2,0,none⟩),.pointer (some ⟨w.heap.size,0,none⟩)])∧w'=((w.alloc (.cells #[.slice a n c] 235)).alloc (.cells #[.int .i64 g] 3)).alloc (.cells #[.int .i64 t] 3):=by
 go_enter Tryz.func210,Tryz.ntmps210
 go_wp2_with fail
 go_ret
 exact ⟨rfl,rfl⟩
theorem upx_seq (l:List Nd) (hv:validN l=true) (a:Option Addr) (c:Nat) (g t:Int) (lk gk tk:Nat) (S:Nat→Prop) (w:World) (h:RowsAt ecNd 3 w (.slice a l.length c) l) (hg:-1≤g∧g < l.length) (ht:0≤t)
 (hlk:Blk w lk #[.slice a l.length c] 235) (hgk:Blk w gk #[.int .i64 g] 3) (htk:Blk w tk #[.int .i64 t] 3) (hgt:gk≠tk) (hrow:∀ b off,0 < l.length→a=some ⟨b,off,none⟩→b≠gk) (hS:∀ x,S x→w.heap.size≤x) :
 SeqX (P:=Tryz.prog) 243 #[.pointer (some ⟨gk,0,none⟩),.pointer (some ⟨tk,0,none⟩),.pointer (some ⟨lk,0,none⟩)] encI gk S (upsN l g t) w:=by
 intro y J Jx W hmW hJ hJx hY h0
 have hR0:=h.keep ecNd_len hmW (fun _ _ x=>x)
 have hl0:=hlk.keep hmW (fun x=>x)
 have hg0:=hgk.keep hmW (fun x=>x)
 have ht0:=htk.keep hmW (fun x=>x)
 have n1:gk≠lk:=hgk.ne hlk (by decide)
 have b1:=hlk.lt
 have b2:=hgk.lt
 have b3:=htk.lt
 have hsz:=hmW.size
 have hcell0:∀ (j:Nat) (x:Nd),l[j]?=some x→∃ b off,a=some ⟨b,off,none⟩∧b < w.heap.size∧W.cell? ⟨b,off+j * 3,none⟩=some (.int .i64 x.up):=by
  intro j x hx
  obtain ⟨b,off,e,c0,_,_⟩:=nd_cells h hx
  exact ⟨b,off,e,lt_of_cell c0,hmW.keeps c0 (fun x=>x)⟩
 have HC:=ζh hcell0
 have HROW:=ζh hrow
 obtain ⟨B,hB⟩:∃ B,B=w.heap.size:=⟨_,rfl⟩
 rw [←hB] at hS hsz b1 b2 b3 HC
 have cl:=hl0.cell 0
 have ct:=ht0.cell 0
 simp only [ζa,ζb] at cl ct
 obtain ⟨xs,hxs⟩:∃ xs,xs=upsN l g t:=⟨_,rfl⟩
 rw [←hxs] at hY ⊢
 have HX:=ζh hxs
 have HV:=ζh hv
 clear hcell0 hrow hxs h hR0 hl0 ht0 hlk hgk htk hmW hB hv w
 refine callsIn_of_wp Tryz.func243 rfl trivial ?_ rfl
 simp only [Tryz.ntmps243,List.size_toArray,List.length_cons,List.length_nil,Nat.reduceAdd,Nat.reduceSub,Array.replicate_succ,Array.replicate_zero,List.push_toArray,List.append_toArray,List.nil_append,List.cons_append]
 gi_wp2
 gi_loopw [] (fun wr=>∃ (pre:List Int) (m:Int),xs=pre++upsN l m t∧pre=xs.take pre.length∧(m=-1∨0≤m∧m < l.length)∧Blk wr gk #[.int .i64 m] 3∧J pre wr∧Mod (fun i=>S i∨i=gk) W wr) (fun wr=>Tre.leftAt gk wr)
 case atStart=>exact ⟨[],g,HX.out,rfl,by omega,hg0,h0,Mod.refl _ _⟩
 case round =>
  obtain ⟨pre,m,hx,hpre,hm,hBm,hj,hM⟩:=hrel
  obtain ⟨wo,rfl⟩:∃ wo:World,wo=wr:=⟨_,rfl⟩
  have hc:=hBm.cell 0
  simp only [ζa,ζb] at hc
  have ctr:=hM.keeps ct (by rintro (h | h);have:=hS _ h;omega;exact hgt h.symm)
  by_cases hmt:m=t
  · subst hmt
    rw [upsN_end,List.append_nil] at hx
    subst hx
    have d0:(m != m)=false:=by simp
    gi_wp2
    go_end0
    exact ⟨⟨_,rfl⟩,.inl hj⟩
  · have d0:(m != t)=true:=by rw [bne_iff_ne];exact hmt
    have hgS:¬ S gk:=fun h=>by have:=hS _ h;omega
    have htS:¬ S tk:=fun h=>by have:=hS _ h;omega
    have hlS:¬ S lk:=fun h=>by have:=hS _ h;omega
    rcases hm with rfl | ⟨hm0,hml⟩
    · rw [upsN_neg l (by omega)] at hx
      obtain ⟨fn,tmps,assign,body,hy,hR⟩:=hY pre (-1) wo hj (by rw [hx];simp) hpre
      dsimp only [encI] at hy
      gi_wp2
      refine ⟨rfl,hR.mono ?_⟩
      clear hR hy
      rintro e w3 (⟨rfl,hj3,hk3⟩ | ⟨rfl,hjx⟩)
      · have hc3:=hk3.keeps hc hgS
        clear hc
        gi_wp2
        refine bodyPost_ret (results_none rfl _ _ _) rfl ?_
        rw [hx]
        exact ⟨⟨_,rfl⟩,.inl hj3⟩
      · gi_wp2
        refine bodyPost_ret (results_none rfl _ _ _) rfl ?_
        exact ⟨⟨_,rfl⟩,.inr hjx⟩
    · obtain ⟨k,rfl⟩:∃ k:Nat,m=k:=⟨m.toNat,by omega⟩
      have hkl:k < l.length:=by omega
      obtain ⟨x,hxk⟩:∃ x,l[k]?=some x:=⟨_,ζg hkl⟩
      have hcons:=upsN_cons HV.out hxk hmt
      have hup:=(valid_up HV.out hxk).1
      rw [hcons] at hx
      obtain ⟨fn,tmps,assign,body,hy,hR⟩:=hY pre k wo hj (by rw [hx];simp) hpre
      dsimp only [encI] at hy
      gi_wp2
      refine ⟨rfl,hR.mono ?_⟩
      clear hR hy
      rintro e w3 (⟨rfl,hj3,hk3⟩ | ⟨rfl,hjx⟩)
      · have hc3:=hk3.keeps hc hgS
        have hM3:Mod (fun i=>S i∨i=gk) W w3:=hM.trans (hk3.mono (fun i h=>.inl h))
        have cl3:=hM3.keeps cl (by rintro (h | h);exact hlS h;exact n1 h.symm)
        obtain ⟨rb,off,rfl,hrb,cu⟩:=HC.out k x hxk
        have cu3:=hM3.keeps cu (by rintro (h | h);have:=hS _ h;omega;exact HROW.out _ _ (by omega) rfl h)
        have hB3:=hBm.keep hk3 hgS
        have hf3:=hB3.frozen 0
        have hi0:(0:Int)≤(k:Int):=by omega
        have hi1:(k:Int) < l.length:=by omega
        have d1:decide ((k:Int) < 0)=false:=decide_eq_false (by omega)
        have hmeas:=Tre.leftAt_of hc
        have hxs':xs=(pre++[(k:Int)])++upsN l x.up t:=by rw [hx];simp
        have hpre':pre++[(k:Int)]=xs.take (pre++[(k:Int)]).length:=by rw [hxs',List.take_left]
        have HX':=ζh hxs'
        have HP':=ζh hpre'
        have HM:=ζh hmeas
        have HU:=ζh hup
        clear hxs' hpre' hmeas hcons hx hup hc hpre hxk
        gi_wp2
        have hset:Mod (fun i=>i=gk) w3 (w3.setCell ⟨gk,0,none⟩ (.int .i64 x.up)):=mod_setCell w3 gk 0 _
        refine ⟨⟨pre++[(k:Int)],x.up,HX'.out,HP'.out,?_,hB3.set 0 _,hJ _ _ _ hj3 hset,hM3.trans (hset.mono (fun i h=>.inr h))⟩,?_⟩
        · rcases HU.out with h | h
          · exact .inl h.2
          · exact .inr (by omega)
        · have e:Tre.leftAt gk (w3.setCell ⟨gk,0,none⟩ (.int .i64 x.up))=(x.up+1).toNat:=Tre.leftAt_of ((hB3.set 0 (.int .i64 x.up)).cell 0)
          rw [HM.out,e]
          rcases HU.out with h | h<;>omega
      · gi_wp2
        refine bodyPost_ret (results_none rfl _ _ _) rfl ?_
        exact ⟨⟨_,rfl⟩,.inr hjx⟩
end Pro

namespace Pro
open Go.RowKit Go.Shelf
attribute [local go_sem] Oper.semAt_some
theorem res_bool {fn:Func} {p:Tmp} (h:fn.results=#[.cell p 4 ]) {tmps:Array Value} {w:World} {g:Nat} {x:Bool} (hp:tmps.getD p undef=.pointer (some ⟨g,0,none⟩)) (hb:w.cell? ⟨g,0,none⟩=some (.bool x)) :
 (results fn tmps).run Tryz.prog w=.ok (.bool x) w:=by
 have hp':tmps[p]?.getD undef=.pointer (some ⟨g,0,none⟩):=by simpa using hp
 have hl:(loadVar 4 ⟨g,0,none⟩).run Tryz.prog w=.ok (.bool x) w:=by
  unfold loadVar
  simp [Tryz.isAgg4 ,go_sem,hb]
 simp [results,h,hp',asAddr,hl]
theorem upsN_mem {l:List Nd} (h:validN l=true) {t:Int} (ht:0≤t):∀ (n:Nat) (g:Int),(g+1).toNat≤n→(-1≤g∧g < l.length)→∀ x∈upsN l g t,-1≤x∧x < l.length:=by
 intro n
 induction n with
 | zero =>
   intro g hn hg x hx
   obtain rfl:g=-1:=by omega
   rw [upsN_neg l (by omega)] at hx
   rw [List.mem_singleton.1 hx];omega
 | succ n ih =>
   intro g hn hg x hx
   by_cases h1:g=t
   · subst h1;rw [upsN_end] at hx;cases hx
   · by_cases h2:g=-1
     · subst h2
       rw [upsN_neg l (by omega)] at hx
       rw [List.mem_singleton.1 hx];omega
     · obtain ⟨k,rfl⟩:∃ k:Nat,g=k:=⟨g.toNat,by omega⟩
       have hk:k < l.length:=by omega
       have hxk:l[k]?=some l[k]:=ζg hk
       rw [upsN_cons h hxk h1] at hx
       have hv:=(valid_up h hxk).1
       rcases List.mem_cons.1 hx with rfl | hx
       · omega
       · exact ih _ (by omega) (by omega) x hx
theorem prbelow_any (l:List Nd) (hv:validN l=true) (v:Value) (g t:Int) (w:World) (h:RowsAt ecNd 3 w v l) (hg:-1≤g∧g < l.length) (ht:0≤t) :
 Calls Tryz.prog 207 #[v,.int .i64 g,.int .i64 t] w fun e w'=>e=.returned (.bool (belowN l g t))∧Mod (fun _=>False) w w':=by
 obtain ⟨a,c,rfl,hcap,hmax⟩:=rows_form h
 obtain ⟨R,hRR⟩:∃ R,R=belowN l g t:=⟨_,rfl⟩
 rw [←hRR]
 refine (callsIn_wide (n:=0)).1 ?_
 refine callsIn_of_wp_marks Tryz.func207 rfl trivial ?_ rfl
 simp only [Tryz.ntmps207,List.size_toArray,List.length_cons,List.length_nil,Nat.reduceAdd,Nat.reduceSub,Array.replicate_succ,Array.replicate_zero,List.push_toArray,List.append_toArray,List.nil_append,List.cons_append]
 gi_wp2_with (refine ⟨trivial,rfl,?_⟩;gi_at_call 210;refine (callsIn_wide.2 (prup_any a l.length c g t _)).mono ?_;rintro e w' ⟨rfl,rfl⟩)
 obtain ⟨r,hr⟩:∃ r,r=w.heap.size:=⟨_,rfl⟩
 have b0:=Blk.new w #[.bool false] 4
 have m0:=Mod.alloc' (fun _=>False) w (.cells #[.bool false] 4)
 obtain ⟨wa,hwa⟩:∃ wa,wa=w.alloc (.cells #[.bool false] 4):=⟨_,rfl⟩
 have sa:wa.heap.size=w.heap.size+1:=by rw [hwa];simp
 rw [←hwa] at b0 m0 ⊢
 have b1:=Blk.new wa #[.slice a l.length c] 235
 have m1:=Mod.alloc' (fun _=>False) wa (.cells #[.slice a l.length c] 235)
 obtain ⟨wb,hwb⟩:∃ wb,wb=wa.alloc (.cells #[.slice a l.length c] 235):=⟨_,rfl⟩
 have sb:wb.heap.size=wa.heap.size+1:=by rw [hwb];simp
 rw [←hwb] at b1 m1 ⊢
 have b2:=Blk.new wb #[.int .i64 g] 3
 have m2:=Mod.alloc' (fun _=>False) wb (.cells #[.int .i64 g] 3)
 obtain ⟨wc,hwc⟩:∃ wc,wc=wb.alloc (.cells #[.int .i64 g] 3):=⟨_,rfl⟩
 have sc:wc.heap.size=wb.heap.size+1:=by rw [hwc];simp
 rw [←hwc] at b2 m2 ⊢
 have b3:=Blk.new wc #[.int .i64 t] 3
 have m3:=Mod.alloc' (fun _=>False) wc (.cells #[.int .i64 t] 3)
 obtain ⟨wd,hwd⟩:∃ wd,wd=wc.alloc (.cells #[.int .i64 t] 3):=⟨_,rfl⟩
 have sd:wd.heap.size=wc.heap.size+1:=by rw [hwd];simp
 rw [←hwd] at b3 m3 ⊢
 rw [sa] at b1
 rw [show wb.heap.size=w.heap.size+2 by omega] at b2
 rw [show wc.heap.size=w.heap.size+3 by omega] at b3
 rw [←hr] at b0 b1 b2 b3 sa ⊢
 have m03:=((m0.trans m1).trans m2).trans m3
 have hRd:=h.keep ecNd_len m03 (fun _ _ x=>x)
 have c0:=b0.keep ((m1.trans m2).trans m3) (fun x=>x)
 have c1:=b1.keep (m2.trans m3) (fun x=>x)
 have c2:=b2.keep m3 (fun x=>x)
 have hne:∀ b off,0 < l.length→a=some ⟨b,off,none⟩→b≠r+2:=by
  intro b off hl0 e hb
  · obtain ⟨b',off',e',hc,_⟩:=nd_cells h (j:=0) (x:=l[0]) (ζg (by omega))
    rw [e] at e'
    injection e' with e'
    injection e' with e' _ _
    have:=lt_of_cell hc
    omega
 have hseq:=upx_seq l hv a c g t (r+1) (r+2) (r+3) (fun i=>wd.heap.size≤i) wd hRd hg ht c1 c2 b3 (by omega) hne (fun x hx=>hx)
 have hmem:=upsN_mem hv ht (g+1).toNat g (Nat.le_refl _) hg
 have HME:=ζh hmem
 obtain ⟨xs,hxs⟩:∃ xs,xs=upsN l g t:=⟨_,rfl⟩
 have hbe:R=xs.all fun x=>decide (0≤x):=by rw [hRR,hxs];rfl
 rw [←hxs] at hseq
 have HBE:=ζh hbe
 clear hRR
 have hSD:wd.heap.size=r+4:=by omega
 have M03:=ζh m03
 have HR:=ζh hr
 have HSD:=ζh hSD
 clear hwa hwb hwc hwd m0 m1 m2 m3 hRd b0 b1 b2 b3 c1 c2 hne hmem hbe hxs h m03 sa sb sc sd hr hSD
 refine wp_range_x (gf:=243) (lb:=#[.pointer (some ⟨r+2,0,none⟩),.pointer (some ⟨r+3,0,none⟩),.pointer (some ⟨r+1,0,none⟩)]) rfl (enters_of Tryz.func243 (by kernel_rfl) rfl) hseq rfl (by have:=HSD.out;omega) (fun i hi=>hi)
  (fun pre W=>(∀ x∈pre,0≤x)∧Blk W r #[.bool false] 4∧Mod (fun _=>False) w W) (fun cd W=>cd=.ret∧(xs.all fun x=>decide (0≤x))=false∧Blk W r #[.bool false] 4∧Mod (fun _=>False) w W) ?hJ ?hIx ?h0 (fun x=>{ tmps:=#[.slice a l.length c,.int .i64 g,.int .i64 t,undef,undef,undef,.pointer (some ⟨r,0,none⟩),.int .i64 x,.slice a l.length c,.int .i64 g,.int .i64 t,.func (.func 243) #[] #[.pointer (some ⟨r+2,0,none⟩),.pointer (some ⟨r+3,0,none⟩),.pointer (some ⟨r+1,0,none⟩)],.int .i64 x,undef,undef],defers:=[] }) ?assign ?body ?done ?stop
 case hJ =>
  rintro pre A B ⟨h1,h2,h3⟩ hm
  exact ⟨h1,h2.keep hm (by have:=HSD.out;omega),h3.trans' hm (fun i hi h=>by have:=HR.out;have:=HSD.out;omega)⟩
 case hIx =>
  rintro cd A B ⟨h0,h1,h2,h3⟩ hm
  exact ⟨h0,h1,h2.keep hm (by have:=HSD.out;omega),h3.trans' hm (fun i hi h=>by have:=HR.out;have:=HSD.out;omega)⟩
 case h0=>exact ⟨fun x hx=>(by cases hx),c0,M03.out⟩
 case assign =>
  intro y x W K hK
  gi_wp2
  simpa [encI] using hK
 case body =>
  rintro y pre x W ⟨h1,h2,h3⟩ hx hpre hsz
  have hc:=h2.cell 0
  simp only [ζa,ζb] at hc
  have hf:=h2.frozen 0
  have hs:=h2.set 0 (.bool false)
  have hms:=mod_setCell W r 0 (.bool false)
  have H3:=ζh h3
  by_cases hx0:x < 0
  · have d0:decide (x < 0)=true:=decide_eq_true hx0
    have hall:(xs.all fun x=>decide (0≤x))=false:=by
     rw [List.all_eq_false]
     exact ⟨x,ζm hx,by simp;omega⟩
    have HAL:=ζh hall
    clear hx hpre hall h3
    gi_wp2
    exact .inr ⟨_,rfl,⟨rfl,HAL.out,hs,H3.out.trans' hms (fun i hi h=>by have:=HR.out;omega)⟩,hms.mono (fun i h=>by have:=HSD.out;omega)⟩
  · have d0:decide (x < 0)=false:=decide_eq_false hx0
    have hpos:∀ z∈pre++[x],0≤z:=by
     intro z hz
     rcases List.mem_append.1 hz with h | h
     · exact h1 z h
     · rw [List.mem_singleton.1 h];omega
    have HP:=ζh hpos
    clear hx hpre h3 hpos h1
    gi_wp2
    exact .inl ⟨⟨fun z hz=>HP.out z (by simpa using hz),H3.out⟩,Mod.refl _ _⟩
 case done =>
  rintro W ⟨h1,h2,h3⟩ hK
  have hall:(xs.all fun x=>decide (0≤x))=true:=by
   rw [List.all_eq_true]
   intro x hx;exact decide_eq_true (h1 x hx)
  obtain rfl:=HBE.out.trans hall
  have hc:=h2.cell 0
  simp only [ζa,ζb] at hc
  have hf:=h2.frozen 0
  have hs:=h2.set 0 (.bool true)
  have hms:=mod_setCell W r 0 (.bool true)
  have hK2:(W.setCell ⟨r,0,none⟩ (.bool true)).heap[wd.heap.size]?=some (.deferred (some [])):=by rw [hms.block _ (Array.getElem?_eq_some_iff.1 hK).1 (by have:=HSD.out;omega)];exact hK
  clear hall h1
  gi_wp2
  have hp:=(mod_putObj (W.setCell ⟨r,0,none⟩ (.bool true)) wd.heap.size (.deferred none))
  have hs2:=(hs.keep hp (by have:=HSD.out;omega)).cell 0
  refine ⟨by simp,.inl ⟨_,_,rfl,run_takeDeferred hK2,?_⟩⟩
  exact ⟨_,res_bool rfl rfl hs2,rfl,(h3.trans' hms (fun i hi h=>by have:=HR.out;omega)).trans' hp (fun i hi h=>by have:=HR.out;have:=HSD.out;omega)⟩
 case stop =>
  rintro cd W ⟨rfl,hall,h2,h3⟩ hK
  obtain rfl:=HBE.out.trans hall
  have hc:=h2.cell 0
  simp only [ζa,ζb] at hc
  clear hall
  gi_wp2
  have hp:=(mod_putObj W wd.heap.size (.deferred none))
  have hs2:=(h2.keep hp (by have:=HSD.out;omega)).cell 0
  refine ⟨by simp,.inl ⟨_,_,rfl,run_takeDeferred hK,?_⟩⟩
  exact ⟨_,res_bool rfl rfl hs2,rfl,h3.trans' hp (fun i hi h=>by have:=HR.out;have:=HSD.out;omega)⟩
end Pro

namespace Reg
open Go.RowKit
def ecRg (x:Rg):List Value:=[.int .i64 x.a,.int .i64 x.b,.int .i64 x.k,.int .i64 x.f,.int .i64 x.i,.bool x.wr]
theorem ecRg_len (x:Rg):(ecRg x).length=6:=rfl
theorem valid_span {x:Rg} (h:spanR x=false):validR x=false:=by unfold validR;rw [h,Bool.false_and]
theorem valid_one {x:Rg} (h:spanR x=true) (h1:x.k=1):validR x=(decide (x.f=0)&&decide (x.i=0)):=by unfold validR;rw [h,Bool.true_and,if_pos h1]
theorem valid_two {x:Rg} (h:spanR x=true) (h1:x.k=2):validR x=(decide (0≤x.f)&&decide (x.f≤1048576)&&decide (0≤x.i)&&decide (x.i≤2097152 - (x.b - x.a))):=by unfold validR;rw [h,Bool.true_and,if_neg (by omega),if_pos h1]
theorem valid_none {x:Rg} (h1:x.k≠1) (h2:x.k≠2):validR x=false:=by unfold validR;rw [if_neg h1,if_neg h2,Bool.and_false]
theorem rvalid_any (x:Rg) (w:World):Calls Tryz.prog 171 #[.agg (ecRg x).toArray] w fun e w'=>e=.returned (.bool (validR x))∧Mod (fun _=>False) w w':=by
 obtain ⟨R,hR⟩:∃ R,R=validR x:=⟨_,rfl⟩
 rw [←hR]
 obtain ⟨a,b,k,f,i,wr⟩:=x
 unfold ecRg
 simp only
 by_cases h1:a < 0
 · have d1:decide (a < 0)=true:=decide_eq_true h1
   have hR2:R=false:=by rw [hR];apply valid_span;unfold spanR;rw [decide_eq_false (by simp only;omega)];rfl
   have HR:=ζh hR2
   clear hR hR2 h1
   go_enter Tryz.func171,Tryz.ntmps171
   go_wp2_with fail
   go_ret
   rw [HR.out]
   exact ⟨rfl,Mod.alloc' _ _ _⟩
 · have d1:decide (a < 0)=false:=decide_eq_false h1
   by_cases h2:b≤a
   · have d2:decide (b≤a)=true:=decide_eq_true h2
     have hR2:R=false:=by rw [hR];apply valid_span;unfold spanR;simp;omega
     have HR:=ζh hR2
     clear hR hR2 h1 h2
     go_enter Tryz.func171,Tryz.ntmps171
     go_wp2_with fail
     go_ret
     rw [HR.out]
     exact ⟨rfl,Mod.alloc' _ _ _⟩
   · have d2:decide (b≤a)=false:=decide_eq_false h2
     by_cases h3:65536 < b
     · have d3:decide (65536 < b)=true:=decide_eq_true h3
       have hR2:R=false:=by rw [hR];apply valid_span;unfold spanR;simp;omega
       have HR:=ζh hR2
       clear hR hR2 h1 h2 h3
       go_enter Tryz.func171,Tryz.ntmps171
       go_wp2_with fail
       go_ret
       rw [HR.out]
       exact ⟨rfl,Mod.alloc' _ _ _⟩
     · have d3:decide (65536 < b)=false:=decide_eq_false h3
       have hsp:spanR ⟨a,b,k,f,i,wr⟩=true:=by unfold spanR;simp;omega
       by_cases h4:k=1
       · have d4:(k==1)=true:=by rw [h4];rfl
         have hv:=valid_one hsp h4
         simp only at hv
         by_cases h5:f=0
         · have d5:(f==0)=true:=by rw [h5];rfl
           have hR2:R=(i==0):=by rw [hR,hv,decide_eq_true h5,Bool.true_and];by_cases h:i=0<;>simp [h]
           have HR:=ζh hR2
           clear hR hR2 h1 h2 h3 h4 h5 hsp hv
           go_enter Tryz.func171,Tryz.ntmps171
           go_wp2_with fail
           go_ret
           rw [HR.out]
           exact ⟨rfl,Mod.alloc' _ _ _⟩
         · have d5:(f==0)=false:=by rw [beq_eq_false_iff_ne];exact h5
           have hR2:R=false:=by rw [hR,hv,decide_eq_false h5,Bool.false_and]
           have HR:=ζh hR2
           clear hR hR2 h1 h2 h3 h4 h5 hsp hv
           go_enter Tryz.func171,Tryz.ntmps171
           go_wp2_with fail
           go_ret
           rw [HR.out]
           exact ⟨rfl,Mod.alloc' _ _ _⟩
       · have d4:(k==1)=false:=by rw [beq_eq_false_iff_ne];exact h4
         by_cases h5:k=2
         · have d5:(k==2)=true:=by rw [h5];rfl
           have hv:=valid_two hsp h5
           simp only at hv
           by_cases h6:0≤f
           · have d6:decide (0≤f)=true:=decide_eq_true h6
             by_cases h7:f≤1048576
             · have d7:decide (f≤1048576)=true:=decide_eq_true h7
               by_cases h8:0≤i
               · have d8:decide (0≤i)=true:=decide_eq_true h8
                 have e1:IntKind.i64.wrap (b - a)=b - a:=wrap_small _ (by omega) (by omega)
                 have e2:IntKind.i64.wrap (2097152 - (b - a))=2097152 - (b - a):=wrap_small _ (by omega) (by omega)
                 have hR2:R=decide (i≤2097152 - (b - a)):=by rw [hR,hv,decide_eq_true h6,decide_eq_true h7,decide_eq_true h8,Bool.true_and,Bool.true_and,Bool.true_and]
                 have HR:=ζh hR2
                 clear hR hR2 h4 h5 h6 h7 h8 hsp hv
                 go_enter Tryz.func171,Tryz.ntmps171
                 go_wp2_with fail
                 go_ret
                 rw [HR.out]
                 exact ⟨rfl,Mod.alloc' _ _ _⟩
               · have d8:decide (0≤i)=false:=decide_eq_false h8
                 have hR2:R=false:=by rw [hR,hv,decide_eq_false h8,Bool.and_false,Bool.false_and]
                 have HR:=ζh hR2
                 clear hR hR2 h1 h2 h3 h4 h5 h6 h7 h8 hsp hv
                 go_enter Tryz.func171,Tryz.ntmps171
                 go_wp2_with fail
                 go_ret
                 rw [HR.out]
                 exact ⟨rfl,Mod.alloc' _ _ _⟩
             · have d7:decide (f≤1048576)=false:=decide_eq_false h7
               have hR2:R=false:=by rw [hR,hv,decide_eq_false h7,Bool.and_false,Bool.false_and,Bool.false_and]
               have HR:=ζh hR2
               clear hR hR2 h1 h2 h3 h4 h5 h6 h7 hsp hv
               go_enter Tryz.func171,Tryz.ntmps171
               go_wp2_with fail
               go_ret
               rw [HR.out]
               exact ⟨rfl,Mod.alloc' _ _ _⟩
           · have d6:decide (0≤f)=false:=decide_eq_false h6
             have hR2:R=false:=by rw [hR,hv,decide_eq_false h6,Bool.false_and,Bool.false_and,Bool.false_and]
             have HR:=ζh hR2
             clear hR hR2 h1 h2 h3 h4 h5 h6 hsp hv
             go_enter Tryz.func171,Tryz.ntmps171
             go_wp2_with fail
             go_ret
             rw [HR.out]
             exact ⟨rfl,Mod.alloc' _ _ _⟩
         · have d5:(k==2)=false:=by rw [beq_eq_false_iff_ne];exact h5
           have hR2:R=false:=by rw [hR];exact valid_none h4 h5
           have HR:=ζh hR2
           clear hR hR2 h1 h2 h3 h4 h5 hsp
           go_enter Tryz.func171,Tryz.ntmps171
           go_wp2_with fail
           go_ret
           rw [HR.out]
           exact ⟨rfl,Mod.alloc' _ _ _⟩
end Reg
end Go.Proofs.YtkfoeonggmlebaaGreatDoor
