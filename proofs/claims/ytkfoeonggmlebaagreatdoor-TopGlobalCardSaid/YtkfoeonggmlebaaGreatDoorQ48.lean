/-
  Contracts of the program's functions, and plain facts, towards the laws of millpondtop. No condition beyond those that each theorem bears.
-/
import Derived.Test.YtkfoeonggmlebaaGreatDoorQ47
import Derived.Test.YtkfoeonggmlebaaGreatDoorQAA
set_option maxRecDepth 100000
set_option maxHeartbeats 4000000
namespace Go.Proofs.YtkfoeonggmlebaaGreatDoor
section
open Go.RowKit Go.Shelf Go.ChangeShapes Go.WideShapes
attribute [local go_sem] Oper.semAt_some
variable {w0 w:World} {F0:Nat→Prop} {A B C P:Part} {ls ps L:List Part} {v:VmM} {o:Opn} {N:Nat}
def runV (v:VmM) (ops:List Opn):VmM:=ops.foldl (fun v o=>(v.doOp o).2) v
def runA:VmM→List Opn→List Ans
 | _,[]=>[]
 | v,o::r=>(v.doOp o).1::runA (v.doOp o).2 r
theorem runV_snoc (v:VmM) (l:List Opn) (o:Opn):runV v (l++[o])=((runV v l).doOp o).2:=by unfold runV;rw [List.foldl_append];rfl
theorem runA_snoc:∀ (l:List Opn) (v:VmM) (o:Opn),runA v (l++[o])=runA v l++[((runV v l).doOp o).1]
 | [],_,_=>rfl
 | x::l,v,o=>by
   show (v.doOp x).1::runA (v.doOp x).2 (l++[o])=(v.doOp x).1::(runA (v.doOp x).2 l++[((runV v (x::l)).doOp o).1])
   rw [runA_snoc l]
   rfl
theorem runA_len:∀ (l:List Opn) (v:VmM),(runA v l).length=l.length
 | [],_=>rfl
 | x::l,v=>by show (runA (v.doOp x).2 l).length+1=_;rw [runA_len l];rfl
theorem take_snoc {α:Type} {l:List α} {k:Nat} {x:α} (h:l[k]?=some x):l.take (k+1)=l.take k++[x]:=by rw [List.take_add_one,h];rfl
def OpsOk (ops:List Opn):Prop:=ops.length≤300∧∀ o∈ops,o.kind≠1∧o.kind≠7∧o.kind≠12∧KO o.kind
theorem runV_sm (ops:List Opn) (h:OpsOk ops) (hv:VSm 0 v) (K:VK):∀ k,k≤ops.length→VSm (200 * k) (runV v (ops.take k)):=by
 intro k
 induction k with
 | zero=>intro _;exact hv
 | succ k ih =>
   intro hk
   have hx:ops[k]?=some ops[k]:=ζg (by omega)
   rw [take_snoc hx,runV_snoc]
   have:=(h.2 _ (ζm hx))
   exact (doOp_sm (ih (by omega)) (by have:=h.1;omega) this.2.1 K).up (by omega)
theorem new_sm (f s:Int) (sizes:List Int):VSm 0 (VmM.new f s sizes):=⟨by simp [VmM.new],csmall_new f s sizes,fun p hp=>by cases hp⟩
def ansCs (al:List Ans) (kvs:List Value):List Value:=(List.zipWith (fun (a:Ans) kv=>[Value.int .i64 a.err,.int .i64 a.n,kv]) al kvs).flatten
def ksL (al:List Ans) (kvs:List Value):List Part:=List.zipWith (fun (a:Ans) kv=>rowP 3 1 kv a.killed.length (a.killed.map encI)) al kvs
theorem ansCs_snoc {al:List Ans} {kvs:List Value} (h:al.length=kvs.length) (a:Ans) (kv:Value):ansCs (al++[a]) (kvs++[kv])=ansCs al kvs++[.int .i64 a.err,.int .i64 a.n,kv]:=by
 unfold ansCs;rw [List.zipWith_append h,List.flatten_append];rfl
theorem ksL_snoc {al:List Ans} {kvs:List Value} (h:al.length=kvs.length) (a:Ans) (kv:Value):ksL (al++[a]) (kvs++[kv])=ksL al kvs++[rowP 3 1 kv a.killed.length (a.killed.map encI)]:=by
 unfold ksL;rw [List.zipWith_append h];rfl
def ecOp (o:Opn):List Value:=[.int .i64 o.kind,.int .i64 o.a,.int .i64 o.b,.int .i64 o.c,.int .i64 o.d]
theorem ecOp_len (o:Opn):(ecOp o).length=5:=rfl
theorem info_ans:(Tryz.prog.info? 32).map (fun i=>(i.zero,i.size,i.bytes))=some (some (.agg #[.int .i64 0,.int .i64 0,.slice none 0 0]),3,40):=by kernel_rfl
theorem op_cells {a:Option Addr} {n c:Nat} {l:List Opn} (h:RowsAt ecOp 5 w (.slice a n c) l) {j:Nat} {x:Opn} (hj:l[j]?=some x):∃ b off,a=some ⟨b,off,none⟩ ∧
 w.cell? ⟨b,off+j * 5,none⟩=some (.int .i64 x.kind)∧w.cell? ⟨b,off+j * 5+1,none⟩=some (.int .i64 x.a)∧w.cell? ⟨b,off+j * 5+2,none⟩=some (.int .i64 x.b) ∧
 w.cell? ⟨b,off+j * 5+3,none⟩=some (.int .i64 x.c)∧w.cell? ⟨b,off+j * 5+4,none⟩=some (.int .i64 x.d):=by
 obtain ⟨a',cap,h1,h2,h3,h4⟩:=h
 injection h1 with e1 e2 e3
 subst e1
 obtain ⟨b,off,h5,h6⟩:=h4 j _ hj
 exact ⟨b,off,h5,by have:=h6 0 (by omega);simp only [Nat.add_zero] at this;exact this,h6 1 (by omega),h6 2 (by omega),h6 3 (by omega),h6 4 (by omega)⟩
theorem vm_run (F S:Int) (sizes:List Int) (sv ov:Value) (ops:List Opn) (w:World) (ht:Pol.TabIs w) (h:IntsAt w sv sizes) (ho:RowsAt ecOp 5 w ov ops) (hok:OpsOk ops) :
 Calls Tryz.prog 19 #[.int .i64 F,.int .i64 S,sv,ov] w fun e w'=>∃ (av:Value) (kvs:List Value),e=.returned av∧kvs.length=ops.length ∧
  Step w (fun _=>False) [rowP 32 3 av ops.length (ansCs (runA (VmM.new F S sizes) ops) kvs),sepP (ksL (runA (VmM.new F S sizes) ops) kvs)] w':=by
 have HN:=ζh (vm_new F S sizes sv w ht h)
 have hform:∃ (oa:Option Addr) (oc:Nat),ov=.slice oa ops.length oc:=by
  obtain ⟨a,cap,h1,_⟩:=ho
  exact ⟨a,cap,h1⟩
 obtain ⟨oa,oc,rfl⟩:=hform
 obtain ⟨n,hn⟩:∃ n,n=ops.length:=⟨_,rfl⟩
 have hn300:n≤300:=by rw [hn];exact hok.1
 rw [←hn] at ho ⊢
 have HO:=ζh ho
 have HOK:=ζh hok
 have HNN:=ζh hn
 clear ht h ho hok hn
 go_enter Tryz.func19,Tryz.ntmps19
 go_wp2_with fail
 refine HN.out.mono ?_
 rintro e w1 ⟨K,rfl,hk,st1⟩
 have st2:=Step.back 4 (Step.rowNil0 (T:=32) (sz:=3) (Step.back 4 (Step.sepNil st1)))
 obtain ⟨v0,hv0⟩:∃ v0,v0=VmM.new F S sizes:=⟨_,rfl⟩
 have st3:Step w (fun _=>False) (VL K (runV v0 (ops.take 0))++[rowP 32 3 (.slice none 0 0) 0 (ansCs (runA v0 (ops.take 0)) []),sepP (ksL (runA v0 (ops.take 0)) [])]) w1:=by rw [hv0];exact st2
 have ST3:=ζh st3
 have HKS:Hid (K.sbs.length=(runV v0 (ops.take 0)).procs.length):=ζh (by rw [hk,hv0];rfl)
 have HV0:=ζh hv0
 clear st1 st2 st3 hk hv0 HN
 go_wp2_with fail
 go_loopw [10,19] (fun s i wr=>∃ (k:Nat) (K':VK) (kvs:List Value),k≤n∧i=.int .i64 k∧kvs.length=k∧K'.vb=K.vb∧K'.sbs.length=(runV v0 (ops.take k)).procs.length∧Hid (Step w (fun _=>False) (VL K' (runV v0 (ops.take k))++[rowP 32 3 s k (ansCs (runA v0 (ops.take k)) kvs),sepP (ksL (runA v0 (ops.take k)) kvs)]) wr)) (fun _ i _=>n - (intOf i).toNat)
 case atStart=>exact ⟨0,K,[],by omega,rfl,rfl,rfl,HKS.out,ζh ST3.out⟩
 case round =>
  obtain ⟨k,K',kvs,hk,rfl,hkl,hvb,hks,HS⟩:=hrel
  obtain ⟨wo,rfl⟩:∃ wo:World,wo=wr:=⟨_,rfl⟩
  by_cases hlt:k < n
  · have hkI:(k:Int) < n:=by omega
    have hkN:0≤(k:Int):=by omega
    obtain ⟨o,ho⟩:∃ o,ops[k]?=some o:=⟨_,ζg (by have:=HNN.out;omega)⟩
    obtain ⟨gb,goff,hoa,y0,y1,y2,y3,y4⟩:=op_cells (HO.out.keep ecOp_len HS.out.mod (fun _ _ h=>h)) ho
    subst hoa
    obtain ⟨v,hv⟩:∃ v,v=runV v0 (ops.take k):=⟨_,rfl⟩
    obtain ⟨al,hal⟩:∃ al,al=runA v0 (ops.take k):=⟨_,rfl⟩
    have hv1:runV v0 (ops.take (k+1))=(v.doOp o).2:=by rw [take_snoc ho,runV_snoc,hv]
    have ha1:runA v0 (ops.take (k+1))=al++[(v.doOp o).1]:=by rw [take_snoc ho,runA_snoc,hal,hv]
    have hall:al.length=kvs.length:=by rw [hal,runA_len,List.length_take,hkl];have:=HNN.out;omega
    have hsm:VSm (200 * k) v:=by
     rw [hv]
     exact runV_sm ops HOK.out (by rw [HV0.out];exact new_sm F S sizes) K k (by have:=HNN.out;omega)
    rw [←hv] at hks
    rw [←hv,←hal] at HS
    have hko:=HOK.out.2 o (ζm ho)
    obtain ⟨pa,pc,hs10⟩:=ownsRow_form (rowAtI 4 HS.out rfl)
    subst hs10
    have st4:=Step.localAt 6 (cs:=opC o) (T:=27) HS.out
    have hdo:=vm_do hko.1 hko.2.2.1 hko.2.2.2 (hsm.ok hks) (by omega) st4
    rw [hvb] at hdo
    obtain ⟨R,hR⟩:∃ R,R=v.doOp o:=⟨_,rfl⟩
    rw [←hR] at hdo hv1 ha1
    unfold opV opC at hdo
    have HDO:=ζh hdo
    have HV1:=ζh hv1
    have HA1:=ζh ha1
    have HAL:=ζh hall
    have HVB:=ζh hvb
    have HKL:=ζh hkl
    clear hv hal hv1 ha1 hall hsm hko st4 hdo hR hks HS ho hvb hkl ST3 HKS
    go_upto_region 6 with fail
    clear y0 y1 y2 y3 y4
    go_wp2_with fail
    refine HDO.out.mono ?_
    rintro e w2 ⟨pv,kv,gv,uv,bs,rfl,hbs,st5⟩
    obtain ⟨ka,kc,hkv⟩:=ownsRow_form (rowAtI 4 st5 rfl)
    obtain ⟨kn,hkn⟩:∃ kn,kn=R.1.killed.length:=⟨_,rfl⟩
    rw [←hkn] at hkv
    subst hkv
    have HKN:=ζh hkn
    clear hkn
    have st6:=Step.dropAt 6 (Step.appAt 5 (Step.front 4 st5 rfl) rfl) rfl
    have hrow:=rowAtI 4 st6 rfl
    have ST6:=ζh st6
    have HROW:=ζh hrow
    have HBS:=ζh hbs
    clear st5 st6 hrow hbs HDO
    unfold ansV
    go_upto_region 7 with (at_builtin;go_loud (refine wpList_app rfl _ _ 49 rfl 0 32 _ 3 40 Tryz.underlying49 info_ans rfl (by decide) (by decide) (.slice pa k pc) k (ansCs al kvs) rfl (HROW.out.alloc _) ⟨w2.heap.size,0,none⟩ 1 [.int .i64 R.1.err,.int .i64 R.1.n,.slice ka kn kc] rfl rfl (World.news_of_block (cs:=#[.int .i64 R.1.err,.int .i64 R.1.n,.slice ka kn kc]) (t:=32) (fr:=(0,0)) (heap_alloc_new w2 _)) (by simp [Value.oneCell']) (by omega) (Nat.zero_le _) ?_;intro g1 cap1 w9 o9 m9 hg9 hlt9;have st9:=ST6.out.growAt 4 (v:=.slice pa k pc) rfl o9 m9 hg9;have ST9:=ζh st9;clear st9 o9 m9 hg9 hlt9))
    clear HROW ST6 HO
    go_wp2_with fail
    go_roundw
    case rel =>
     refine ⟨k+1,⟨K'.vb,{ K'.co with gv:=gv,uv:=uv },pv,bs⟩,kvs++[.slice ka kn kc],by omega,by go_num,by simp [HKL.out],HVB.out,by rw [HV1.out];exact HBS.out,ζh ?_⟩
     rw [HV1.out,HA1.out,ansCs_snoc HAL.out,ksL_snoc HAL.out]
     exact ST9.out
    case measure=>simp [intOf];omega
  · obtain rfl:k=n:=by omega
    have hst:=HS.out
    rw [List.take_of_length_le (by have:=HNN.out;omega)] at hst
    have hl:=Step.drop (Step.drop (Step.drop (Step.drop hst)))
    rw [HV0.out] at hl
    have HL:=ζh hl
    clear hst hl HS
    go_wp2_with fail
    go_ret
    exact ⟨u10,kvs,rfl,hkl,HL.out⟩
end

section
def opsW':List Opn:=[⟨3,0,0,0,0⟩,⟨5,0,3,0,0⟩,⟨9,0,1,7,0⟩,⟨9,0,17,8,0⟩,⟨8,0,1,0,0⟩,⟨8,0,17,0,0⟩,⟨8,0,33,0,0⟩]
theorem runW:(runA (VmM.new 1 9 []) opsW').map (fun a=>(a.err,a.n))=[(0,0),(0,0),(0,0),(0,0),(0,7),(0,8),(0,0)]:=by decide +kernel
end

section
open Go.RowKit Go.Shelf Go.ChangeShapes Go.WideShapes
attribute [local go_sem] Oper.semAt_some
theorem rows_lit {w:World} (ops:List Opn) (hl:ops.length≤1000) {cs:Array Value} (hcs:cs.toList=ops.flatMap ecOp):RowsAt ecOp 5 (w.alloc (.cells cs 27)) (.slice (some ⟨w.heap.size,0,none⟩) ops.length ops.length) ops:=by
 refine ⟨_,_,rfl,Nat.le_refl _,by unfold maxLen;omega,fun j x hj=>⟨w.heap.size,0,rfl,fun i hi=>?_⟩⟩
 have hb:=Blk.new w cs 27
 rw [Nat.zero_add,hb.cell (j * 5+i),←Array.getElem?_toList,hcs,flat_get ecOp_len ops j i hi,hj]
 rfl
theorem ansCs_get:∀ {al:List Ans} {kvs:List Value} {j:Nat} {a:Ans},al.length=kvs.length→al[j]?=some a→(ansCs al kvs)[j * 3]?=some (.int .i64 a.err)∧(ansCs al kvs)[j * 3+1]?=some (.int .i64 a.n)
 | [],_,j,_,_,h=>by simp at h
 | x::al,[],_,_,hl,_=>by cases hl
 | x::al,kv::kvs,0,a,_,h=>by
   have h':x=a:=by simpa using h
   subst h'
   exact ⟨rfl,rfl⟩
 | x::al,kv::kvs,j+1,a,hl,h=>by
   have ih:=ansCs_get (al:=al) (kvs:=kvs) (j:=j) (a:=a) (by simpa using hl) (by simpa using h)
   have e:ansCs (x::al) (kv::kvs)=.int .i64 x.err::.int .i64 x.n::kv::ansCs al kvs:=rfl
   rw [e,show (j+1) * 3=j * 3+1+1+1 from by omega,show j * 3+1+1+1+1=(j * 3+1)+1+1+1 from rfl]
   simp only [ζc]
   exact ih
theorem ans_cells {w:World} {pa:Option Addr} {n pc:Nat} {al:List Ans} {kvs:List Value} (h:w.ownsRow 0 32 3 (.slice pa n pc) n (ansCs al kvs)) (hl:al.length=n) (hk:kvs.length=n) {j:Nat} {a:Ans} (ha:al[j]?=some a) :
 ∃ g,pa=some ⟨g,0,none⟩∧w.cell? ⟨g,j * 3,none⟩=some (.int .i64 a.err)∧w.cell? ⟨g,j * 3+1,none⟩=some (.int .i64 a.n):=by
 have hj:=(ζi.1 ha).1
 rcases id h.2 with ⟨_,h0⟩ | ⟨g,cap,cur,hv,_⟩
 · omega
 · injection hv with hv
   subst hv
   obtain ⟨e0,e1⟩:=ansCs_get (al:=al) (kvs:=kvs) (by omega) ha
   refine ⟨g,rfl,?_,?_⟩
   · rw [h.cellAt (j * 3) (by omega)];exact e0
   · rw [h.cellAt (j * 3+1) (by omega)];exact e1
theorem works_any (w:World) (ht:Pol.TabIs w):Calls Tryz.prog 10 #[] w fun e w'=>e=.returned (.bool true)∧Mod (fun _=>False) w w':=by
 obtain ⟨wa,hwa⟩:∃ wa,wa=w.alloc (.cells #[.int .i64 3,.int .i64 0,.int .i64 0,.int .i64 0,.int .i64 0,.int .i64 5,.int .i64 0,.int .i64 3,.int .i64 0,.int .i64 0,.int .i64 9,.int .i64 0,.int .i64 1,.int .i64 7,.int .i64 0,.int .i64 9,.int .i64 0,.int .i64 17,.int .i64 8,.int .i64 0,.int .i64 8,.int .i64 0,.int .i64 1,.int .i64 0,.int .i64 0,.int .i64 8,.int .i64 0,.int .i64 17,.int .i64 0,.int .i64 0,.int .i64 8,.int .i64 0,.int .i64 33,.int .i64 0,.int .i64 0] 27):=⟨_,rfl⟩
 have hrows:RowsAt ecOp 5 wa (.slice (some ⟨w.heap.size,0,none⟩) 7 7) opsW':=by
  rw [hwa]
  exact rows_lit opsW' (by decide) rfl
 have hma:Mod (fun _=>False) w wa:=by rw [hwa];exact Mod.alloc' _ _ _
 have hrun:=vm_run 1 9 [] (.slice none 0 0) _ opsW' wa (Pol.TabIs.keep ht hma (fun x=>x)) ⟨none,0,rfl,Nat.le_refl _,by unfold maxLen;omega,fun j hj=>by simp at hj⟩ hrows ⟨by decide,by decide⟩
 have hrW:=runW
 obtain ⟨al,hal⟩:∃ al,al=runA (VmM.new 1 9 []) opsW':=⟨_,rfl⟩
 rw [←hal] at hrun hrW
 have HRUN:=ζh hrun
 have HW:=ζh hrW
 have HMA:=ζh hma
 have HWA:=ζh hwa
 clear ht hrows hma hrun hrW hal hwa
 go_enter Tryz.func10,Tryz.ntmps10
 go_wp2_with fail
 rw [←HWA.out]
 refine HRUN.out.mono ?_
 rintro e w1 ⟨av,kvs,rfl,hkl,st1⟩
 obtain ⟨pa,pc,rfl⟩:=ownsRow_form (rowAtI 0 st1 rfl)
 have hlen:al.length=7:=by have:=congrArg List.length HW.out;simpa using this
 obtain ⟨a4,h4⟩:∃ a,al[4]?=some a:=⟨_,ζg (by omega)⟩
 obtain ⟨a5,h5⟩:∃ a,al[5]?=some a:=⟨_,ζg (by omega)⟩
 obtain ⟨a6,h6⟩:∃ a,al[6]?=some a:=⟨_,ζg (by omega)⟩
 have g4:a4.n=7:=by have:=congrArg (fun l=>l[4]?) HW.out;simp only [List.getElem?_map,h4] at this;exact congrArg (fun o=>(o.getD (0,0)).2) this
 have g5:a5.n=8:=by have:=congrArg (fun l=>l[5]?) HW.out;simp only [List.getElem?_map,h5] at this;exact congrArg (fun o=>(o.getD (0,0)).2) this
 have g6:a6.n=0:=by have:=congrArg (fun l=>l[6]?) HW.out;simp only [List.getElem?_map,h6] at this;exact congrArg (fun o=>(o.getD (0,0)).2) this
 have g7:a6.err=0:=by have:=congrArg (fun l=>l[6]?) HW.out;simp only [List.getElem?_map,h6] at this;exact congrArg (fun o=>(o.getD (0,0)).1) this
 have hrow:=rowAtI 0 st1 rfl
 obtain ⟨g,rfl,-,c4⟩:=ans_cells hrow hlen hkl h4
 obtain ⟨_,e5,-,c5⟩:=ans_cells hrow hlen hkl h5
 obtain ⟨_,e6,c7,c6⟩:=ans_cells hrow hlen hkl h6
 cases e5
 cases e6
 rw [g4] at c4
 rw [g5] at c5
 rw [g6] at c6
 rw [g7] at c7
 have hM:=HMA.out.trans' st1.mod (fun i hi h=>h)
 have HM:=ζh hM
 clear hM st1 hrow hkl hlen h4 h5 h6 g4 g5 g6 g7 HW HRUN HMA HWA
 go_wp2_with fail
 go_ret
 exact ⟨rfl,HM.out⟩
end

section
open Go.RowKit Go.Shelf Go.ChangeShapes Go.WideShapes
attribute [local go_sem] Oper.semAt_some
variable {w0 w:World} {F0:Nat→Prop} {A B C P:Part} {ls ps L:List Part} {K:VK} {v:VmM} {o:Opn} {N:Nat}
structure VIs (N:Nat) (vb:Nat) (K:VK) (v:VmM):Prop where
 sm:VSm N v
 len:K.sbs.length=v.procs.length
 vb:K.vb=vb
theorem VIs.up {M vb:Nat} (h:VIs N vb K v) (hm:N≤M):VIs M vb K v:=⟨h.sm.up hm,h.len,h.vb⟩
theorem do_is {vb:Nat} (hk:o.kind≠1∧o.kind≠7∧o.kind≠12∧KO o.kind) (h:VIs N vb K v) (hN:N≤80000) (st:Step w0 F0 (VL K v++ls) w) :
 Calls Tryz.prog 12 #[.pointer (some ⟨vb,0,none⟩),opV o] w fun e w'=>∃ (K':VK) (ka:Option Addr) (kn kc:Nat),e=.returned (ansV (v.doOp o).1 (.slice ka kn kc))∧VIs (N+200) vb K' (v.doOp o).2∧Step w0 F0 (VL K' (v.doOp o).2++(rowP 3 1 (.slice ka kn kc) (v.doOp o).1.killed.length ((v.doOp o).1.killed.map encI)::ls)) w':=by
 have:=vm_do hk.1 hk.2.2.1 hk.2.2.2 (h.sm.ok h.len) hN st
 rw [h.vb] at this
 refine this.mono ?_
 rintro e w' ⟨pv,kv,gv,uv,bs,he,hbs,st2⟩
 obtain ⟨ka,kc,hkv⟩:=ownsRow_form (rowAtI 4 st2 rfl)
 subst hkv
 exact ⟨⟨K.vb,{ K.co with gv:=gv,uv:=uv },pv,bs⟩,ka,_,kc,he,⟨doOp_sm h.sm hN hk.2.1 K,hbs,h.vb⟩,st2⟩
def doneM:VmM→List Opn→Bool × VmM
 | v,[]=>(true,v)
 | v,o::r=>if (v.doOp o).1.err=0 then doneM (v.doOp o).2 r else (false,(v.doOp o).2)
theorem doneM_drop {ops:List Opn} {k:Nat} {x:Opn} (h:ops[k]?=some x):doneM v (ops.drop k)=if (v.doOp x).1.err=0 then doneM (v.doOp x).2 (ops.drop (k+1)) else (false,(v.doOp x).2):=by
 obtain ⟨hl,he⟩:=ζi.1 h
 rw [List.drop_eq_getElem_cons hl,he]
 rfl
theorem rows_blk {ops:List Opn} (hl:ops.length≤1000) {cs:Array Value} {b:Nat} {w:World} {T:TypeId} (hcs:cs.toList=ops.flatMap ecOp) (hb:Blk w b cs T):RowsAt ecOp 5 w (.slice (some ⟨b,0,none⟩) ops.length ops.length) ops:=by
 refine ⟨_,_,rfl,Nat.le_refl _,by unfold maxLen;omega,fun j x hj=>⟨b,0,rfl,fun i hi=>?_⟩⟩
 rw [Nat.zero_add,hb.cell (j * 5+i),←Array.getElem?_toList,hcs,flat_get ecOp_len ops j i hi,hj]
 rfl
theorem ans_field (x y:Int) (kv:Value) (w:World):(Instr.field 32 (.agg #[.int .i64 x,.int .i64 y,kv]) 0).run Tryz.prog w=.ok (.int .i64 x) w:=by kernel_rfl
theorem done_any {vb gb j:Nat} {cs:Array Value} (ops:List Opn) (hok:OpsOk ops) (hcs:cs.toList=ops.flatMap ecOp) (hj:ls[j]?=some (blkP gb cs 27)) (h:VIs N vb K v) (hN:N≤10000) (st:Step w0 F0 (VL K v++ls) w) :
 Calls Tryz.prog 16 #[.pointer (some ⟨vb,0,none⟩),.slice (some ⟨gb,0,none⟩) ops.length ops.length] w fun e w'=>∃ (K':VK),e=.returned (.bool (doneM v ops).1)∧VIs (N+200 * ops.length) vb K' (doneM v ops).2∧Step w0 F0 (VL K' (doneM v ops).2++ls) w':=by
 obtain ⟨n,hn⟩:∃ n,n=ops.length:=⟨_,rfl⟩
 have hn300:n≤300:=by rw [hn];exact hok.1
 obtain ⟨R,hR⟩:∃ R,R=doneM v ops:=⟨_,rfl⟩
 rw [←hn,←hR]
 have HOK:=ζh hok
 have HCS:=ζh hcs
 have HJ:=ζh hj
 have HI:=ζh h
 have ST:=ζh st
 have HNN:=ζh hn
 have HR:=ζh hR
 clear hok hcs hj h st hn hR
 go_enter Tryz.func16,Tryz.ntmps16
 go_wp2_with fail
 go_loopw [5] (fun i wr=>∃ (k:Nat) (K':VK) (v':VmM),k≤n∧i=.int .i64 k∧Hid (R=doneM v' (ops.drop k))∧Hid (VIs (N+200 * k) vb K' v')∧Hid (Step w0 F0 (VL K' v'++ls) wr)) (fun i _=>n - (intOf i).toNat)
 case atStart=>exact ⟨0,K,v,by omega,rfl,ζh (by rw [HR.out];rfl),ζh HI.out,ζh ST.out⟩
 case round =>
  obtain ⟨k,K',v',hk,rfl,HRK,HIK,HS⟩:=hrel
  obtain ⟨wo,rfl⟩:∃ wo:World,wo=wr:=⟨_,rfl⟩
  clear HI ST HR
  by_cases hlt:k < n
  · have hkI:(k:Int) < n:=by omega
    have hkN:0≤(k:Int):=by omega
    obtain ⟨o,ho⟩:∃ o,ops[k]?=some o:=⟨_,ζg (by have:=HNN.out;omega)⟩
    have hrk:=HRK.out
    rw [doneM_drop ho] at hrk
    have hblk:Blk wo gb cs 27:=HS.out.blk (ζm (i:=j+4) (by show ls[j]?=_;exact HJ.out))
    obtain ⟨_,goff,hoa,y0,y1,y2,y3,y4⟩:=op_cells (rows_blk (by have:=HNN.out;omega) HCS.out hblk) ho
    injection hoa with hoa
    injection hoa with e1 e2
    subst e1 e2
    simp only [Nat.zero_add] at y0 y1 y2 y3 y4
    have hko:=HOK.out.2 o (ζm ho)
    have hdo:=do_is hko HIK.out (by omega) HS.out
    obtain ⟨Q,hQ⟩:∃ Q,Q=v'.doOp o:=⟨_,rfl⟩
    rw [←hQ] at hdo hrk
    unfold opV at hdo
    have HDO:=ζh hdo
    have HRX:=ζh hrk
    clear hblk hdo hrk hQ ho hko HS HIK HRK
    by_cases he:Q.1.err=0
    · have hb:(Q.1.err != 0)=false:=by simp [he]
      go_wp2_with fail
      refine HDO.out.mono ?_
      rintro e w2 ⟨K2,ka,kn,kc,rfl,hi2,st2⟩
      have ST2:=ζh (Step.dropAt 4 st2 rfl)
      have HI2:=ζh hi2
      have hr:=HRX.out
      rw [if_pos he] at hr
      have HR2:=ζh hr
      have he2:Q.1.err=0:=he
      clear st2 hi2 hr HRX HDO y0 y1 y2 y3 y4 he hb
      unfold ansV
      rw [he2]
      have hfd:=ans_field 0 Q.1.n (.slice ka kn kc)
      go_wp2_with fail
      go_roundw
      case rel=>exact ⟨k+1,K2,Q.2,by omega,by go_num,HR2,ζh (HI2.out.up (by omega)),ST2⟩
      case measure=>simp [intOf];omega
    · have hb:(Q.1.err != 0)=true:=by simp [he]
      go_wp2_with fail
      refine HDO.out.mono ?_
      rintro e w2 ⟨K2,ka,kn,kc,rfl,hi2,st2⟩
      have ST2:=ζh (Step.dropAt 4 st2 rfl)
      have HI2:=ζh hi2
      have hr:=HRX.out
      rw [if_neg he] at hr
      have HR2:=ζh hr
      clear st2 hi2 hr HRX HDO y0 y1 y2 y3 y4
      unfold ansV
      have hfd:=ans_field Q.1.err Q.1.n (.slice ka kn kc)
      go_wp2_with fail
      go_ret
      rw [HR2.out]
      exact ⟨K2,rfl,HI2.out.up (by omega),ST2.out⟩
  · obtain rfl:k=n:=by omega
    have hr:=HRK.out
    rw [List.drop_eq_nil_of_le (by have:=HNN.out;omega)] at hr
    have HRR:=ζh hr
    clear hr HRK
    go_wp2_with fail
    go_ret
    rw [HRR.out]
    exact ⟨K',rfl,HIK.out,HS.out⟩
end

section
open Go.RowKit Go.Shelf Go.ChangeShapes Go.WideShapes
attribute [local go_sem] Oper.semAt_some
variable {w0 w:World} {F0:Nat→Prop} {A B C P:Part} {ls ps L:List Part} {K:VK} {v:VmM} {o:Opn} {N:Nat}
def storeO (pid first:Int) (k:Nat):Opn:=⟨9,pid,16 * k,first+k,0⟩
def storesM:Nat→VmM→Int→Int→Nat→Bool × VmM
 | 0,v,_,_,_=>(true,v)
 | n+1,v,pid,first,k=>if (v.doOp (storeO pid first k)).1.err=0 then storesM n (v.doOp (storeO pid first k)).2 pid first (k+1) else (false,(v.doOp (storeO pid first k)).2)
theorem stores_any {vb:Nat} (pid first:Int) (n:Nat) (hn300:n≤300) (hf:0≤first∧first≤1000) (h:VIs N vb K v) (hN:N≤10000) (st:Step w0 F0 (VL K v++ls) w) :
 Calls Tryz.prog 17 #[.pointer (some ⟨vb,0,none⟩),.int .i64 pid,.int .i64 n,.int .i64 first] w fun e w'=>∃ (K':VK),e=.returned (.bool (storesM n v pid first 0).1)∧VIs (N+200 * n) vb K' (storesM n v pid first 0).2∧Step w0 F0 (VL K' (storesM n v pid first 0).2++ls) w':=by
 obtain ⟨R,hR⟩:∃ R,R=storesM n v pid first 0:=⟨_,rfl⟩
 rw [←hR]
 have HI:=ζh h
 have ST:=ζh st
 have HR:=ζh hR
 clear h st hR
 go_enter Tryz.func17,Tryz.ntmps17
 go_wp2_with fail
 go_loopw [9] (fun i wr=>∃ (k:Nat) (K':VK) (v':VmM),k≤n∧i=.int .i64 k∧Hid (R=storesM (n - k) v' pid first k)∧Hid (VIs (N+200 * k) vb K' v')∧Hid (Step w0 F0 (VL K' v'++ls) wr)) (fun i _=>n - (intOf i).toNat)
 case atStart=>exact ⟨0,K,v,by omega,rfl,ζh HR.out,ζh HI.out,ζh ST.out⟩
 case round =>
  obtain ⟨k,K',v',hk,rfl,HRK,HIK,HS⟩:=hrel
  obtain ⟨wo,rfl⟩:∃ wo:World,wo=wr:=⟨_,rfl⟩
  clear HI ST HR
  by_cases hlt:k < n
  · have hkI:(k:Int) < n:=by omega
    have hw1:IntKind.i64.wrap (16 * (k:Int))=16 * k:=wrap_small _ (by omega) (by omega)
    have hw2:IntKind.i64.wrap (first+(k:Int))=first+k:=wrap_small _ (by omega) (by omega)
    have hrk:=HRK.out
    rw [show n - k=(n - (k+1))+1 by omega] at hrk
    unfold storesM at hrk
    have hdo:=do_is (o:=storeO pid first k) ⟨by show (9:Int)≠1;decide,by show (9:Int)≠7;decide,by show (9:Int)≠12;decide,by show KO 9;decide⟩ HIK.out (by omega) HS.out
    obtain ⟨Q,hQ⟩:∃ Q,Q=v'.doOp (storeO pid first k):=⟨_,rfl⟩
    rw [←hQ] at hdo hrk
    unfold opV storeO at hdo
    have HDO:=ζh hdo
    have HRX:=ζh hrk
    clear hdo hrk hQ HS HIK HRK
    by_cases he:Q.1.err=0
    · go_wp2_with fail
      refine HDO.out.mono ?_
      rintro e w2 ⟨K2,ka,kn,kc,rfl,hi2,st2⟩
      have ST2:=ζh (Step.dropAt 4 st2 rfl)
      have HI2:=ζh hi2
      have hr:=HRX.out
      rw [if_pos he] at hr
      have HR2:=ζh hr
      have he2:Q.1.err=0:=he
      clear st2 hi2 hr HRX HDO he
      unfold ansV
      rw [he2]
      have hfd:=ans_field 0 Q.1.n (.slice ka kn kc)
      go_wp2_with fail
      go_roundw
      case rel=>exact ⟨k+1,K2,Q.2,by omega,by go_num,HR2,ζh (HI2.out.up (by omega)),ST2⟩
      case measure=>simp [intOf];omega
    · have hb:(Q.1.err != 0)=true:=by simp [he]
      go_wp2_with fail
      refine HDO.out.mono ?_
      rintro e w2 ⟨K2,ka,kn,kc,rfl,hi2,st2⟩
      have ST2:=ζh (Step.dropAt 4 st2 rfl)
      have HI2:=ζh hi2
      have hr:=HRX.out
      rw [if_neg he] at hr
      have HR2:=ζh hr
      clear st2 hi2 hr HRX HDO
      unfold ansV
      have hfd:=ans_field Q.1.err Q.1.n (.slice ka kn kc)
      go_wp2_with fail
      go_ret
      rw [HR2.out]
      exact ⟨K2,rfl,HI2.out.up (by omega),ST2.out⟩
  · obtain rfl:k=n:=by omega
    have hr:=HRK.out
    rw [Nat.sub_self] at hr
    have HRR:=ζh hr
    clear hr HRK
    go_wp2_with fail
    go_ret
    rw [HRR.out]
    exact ⟨K',rfl,HIK.out,HS.out⟩
end

section
open Go.RowKit Go.Shelf Go.ChangeShapes Go.WideShapes
attribute [local go_sem] Oper.semAt_some
variable {w0 w:World} {F0:Nat→Prop} {A B C P:Part} {ls ps L:List Part} {K:VK} {v:VmM} {o:Opn} {N:Nat}
def loadO (pid:Int) (k:Nat):Opn:=⟨8,pid,16 * k,0,0⟩
def loadsM:Nat→VmM→Int→Int→Nat→Bool × VmM
 | 0,v,_,_,_=>(true,v)
 | n+1,v,pid,first,k=>if (v.doOp (loadO pid k)).1.err=0∧(v.doOp (loadO pid k)).1.n=first+k then loadsM n (v.doOp (loadO pid k)).2 pid first (k+1) else (false,(v.doOp (loadO pid k)).2)
theorem loads_any {vb:Nat} (pid first:Int) (n:Nat) (hn300:n≤300) (hf:0≤first∧first≤1000) (h:VIs N vb K v) (hN:N≤10000) (st:Step w0 F0 (VL K v++ls) w) :
 Calls Tryz.prog 18 #[.pointer (some ⟨vb,0,none⟩),.int .i64 pid,.int .i64 n,.int .i64 first] w fun e w'=>∃ (K':VK),e=.returned (.bool (loadsM n v pid first 0).1)∧VIs (N+200 * n) vb K' (loadsM n v pid first 0).2∧Step w0 F0 (VL K' (loadsM n v pid first 0).2++ls) w':=by
 obtain ⟨R,hR⟩:∃ R,R=loadsM n v pid first 0:=⟨_,rfl⟩
 rw [←hR]
 have HI:=ζh h
 have ST:=ζh st
 have HR:=ζh hR
 clear h st hR
 go_enter Tryz.func18,Tryz.ntmps18
 go_wp2_with fail
 go_loopw [9] (fun i wr=>∃ (k:Nat) (K':VK) (v':VmM),k≤n∧i=.int .i64 k∧Hid (R=loadsM (n - k) v' pid first k)∧Hid (VIs (N+200 * k) vb K' v')∧Hid (Step w0 F0 (VL K' v'++ls) wr)) (fun i _=>n - (intOf i).toNat)
 case atStart=>exact ⟨0,K,v,by omega,rfl,ζh HR.out,ζh HI.out,ζh ST.out⟩
 case round =>
  obtain ⟨k,K',v',hk,rfl,HRK,HIK,HS⟩:=hrel
  obtain ⟨wo,rfl⟩:∃ wo:World,wo=wr:=⟨_,rfl⟩
  clear HI ST HR
  by_cases hlt:k < n
  · have hkI:(k:Int) < n:=by omega
    have hw1:IntKind.i64.wrap (16 * (k:Int))=16 * k:=wrap_small _ (by omega) (by omega)
    have hw2:IntKind.i64.wrap (first+(k:Int))=first+k:=wrap_small _ (by omega) (by omega)
    have hrk:=HRK.out
    rw [show n - k=(n - (k+1))+1 by omega] at hrk
    unfold loadsM at hrk
    have hdo:=do_is (o:=loadO pid k) ⟨by show (8:Int)≠1;decide,by show (8:Int)≠7;decide,by show (8:Int)≠12;decide,by show KO 8;decide⟩ HIK.out (by omega) HS.out
    obtain ⟨Q,hQ⟩:∃ Q,Q=v'.doOp (loadO pid k):=⟨_,rfl⟩
    rw [←hQ] at hdo hrk
    unfold opV loadO at hdo
    have HDO:=ζh hdo
    have HRX:=ζh hrk
    clear hdo hrk hQ HS HIK HRK
    go_wp2_with fail
    refine HDO.out.mono ?_
    rintro e w2 ⟨K2,ka,kn,kc,rfl,hi2,st2⟩
    have ST2:=ζh (st2.still (Mod.alloc' (fun _=>False) w2 (.cells #[.int .i64 Q.1.err,.int .i64 Q.1.n,.slice ka kn kc] 32)))
    have HI2:=ζh hi2
    clear st2 hi2 HDO
    unfold ansV
    go_upto_region 5 with fail
    obtain ⟨wn,hwn⟩:∃ wn,wn=w2.alloc (.cells #[.int .i64 Q.1.err,.int .i64 Q.1.n,.slice ka kn kc] 32):=⟨_,rfl⟩
    obtain ⟨gn,hgn⟩:∃ gn,gn=w2.heap.size:=⟨_,rfl⟩
    have hbk:=Blk.new w2 #[.int .i64 Q.1.err,.int .i64 Q.1.n,.slice ka kn kc] 32
    rw [←hwn,←hgn] at hbk
    rw [←hwn] at ST2
    rw [←hwn,←hgn]
    have c0:wn.cell? ⟨gn,0,none⟩=some (.int .i64 Q.1.err):=hbk.cell 0
    have c1:wn.cell? ⟨gn,1,none⟩=some (.int .i64 Q.1.n):=hbk.cell 1
    have ST3:=ζh (Step.dropAt 4 ST2.out rfl)
    clear hwn hgn hbk ST2
    by_cases he:Q.1.err=0
    · rw [he] at c0
      by_cases hv:Q.1.n=first+k
      · have hr:=HRX.out
        rw [if_pos ⟨he,hv⟩] at hr
        rw [hv] at c1
        have HR2:=ζh hr
        clear hr HRX he hv
        go_wp2_with fail
        go_roundw
        case rel=>exact ⟨k+1,K2,Q.2,by omega,by go_num,HR2,ζh (HI2.out.up (by omega)),ST3⟩
        case measure=>simp [intOf];omega
      · have hr:=HRX.out
        rw [if_neg (fun h=>hv h.2)] at hr
        have hb:(Q.1.n != first+k)=true:=by simp [hv]
        have HR2:=ζh hr
        clear hr HRX he
        go_wp2_with fail
        go_ret
        rw [HR2.out]
        exact ⟨K2,rfl,HI2.out.up (by omega),ST3.out⟩
    · have hr:=HRX.out
      rw [if_neg (fun h=>he h.1)] at hr
      have hb:(Q.1.err != 0)=true:=by simp [he]
      have HR2:=ζh hr
      clear hr HRX
      go_wp2_with fail
      go_ret
      rw [HR2.out]
      exact ⟨K2,rfl,HI2.out.up (by omega),ST3.out⟩
  · obtain rfl:k=n:=by omega
    have hr:=HRK.out
    rw [Nat.sub_self] at hr
    have HRR:=ζh hr
    clear hr HRK
    go_wp2_with fail
    go_ret
    rw [HRR.out]
    exact ⟨K',rfl,HIK.out,HS.out⟩
end

section
def opsG:List Opn:=[⟨0,0,0,0,0⟩,⟨0,0,0,0,0⟩,⟨3,1,0,0,0⟩,⟨3,2,0,0,0⟩,⟨5,0,30,0,0⟩,⟨5,1,30,0,0⟩]
def globalM (f:Int) (x:Nat):Bool :=
 let d:=doneM (VmM.new f 0 []) opsG
 let y:=f.toNat - x
 let s0:=storesM x d.2 0 30 0
 let s1:=storesM y s0.2 1 60 0
 let a:=s1.2.doOp ⟨9,0,16 * x,9,0⟩
 let live:=a.2.procs.map (·.2.isSome)
 d.1&&s0.1&&s1.1&&decide (a.1.killed.length=1)&&decide (live.length=2) &&
  (if y≤x then decide (a.1.err=13)&&decide (a.1.killed=[0])&&decide (live=[false,true])&&(loadsM y a.2 1 60 0).1
   else decide (a.1.err=0)&&decide (a.1.killed=[1])&&decide (live=[true,false])&&(loadsM x a.2 0 30 0).1)
def globalRow (f:Nat):Bool:=(List.range 20).all fun x=>decide (x < 1)||decide (f≤x)||globalM f x
theorem globalRow3:globalRow 3=true:=by decide +kernel
theorem globalRow4:globalRow 4=true:=by decide +kernel
theorem globalRow5:globalRow 5=true:=by decide +kernel
theorem globalRow6:globalRow 6=true:=by decide +kernel
theorem globalRow7:globalRow 7=true:=by decide +kernel
theorem globalRow8:globalRow 8=true:=by decide +kernel
theorem globalRow9:globalRow 9=true:=by decide +kernel
theorem globalRow10:globalRow 10=true:=by decide +kernel
theorem globalRow11:globalRow 11=true:=by decide +kernel
theorem globalRow12:globalRow 12=true:=by decide +kernel
theorem globalRow13:globalRow 13=true:=by decide +kernel
theorem globalRow14:globalRow 14=true:=by decide +kernel
theorem globalRow15:globalRow 15=true:=by decide +kernel
theorem globalRow16:globalRow 16=true:=by decide +kernel
theorem globalRow17:globalRow 17=true:=by decide +kernel
theorem globalRow18:globalRow 18=true:=by decide +kernel
theorem globalRow19:globalRow 19=true:=by decide +kernel
theorem globalRow20:globalRow 20=true:=by decide +kernel
end

section
open Go.RowKit Go.Shelf Go.ChangeShapes Go.WideShapes
attribute [local go_sem] Oper.semAt_some
theorem globalM_at {f x:Nat} (h1:3≤f) (h2:f≤20) (h3:1≤x) (h4:x < f):globalM f x=true:=by
 have h:globalRow f=true:=by
  have:f=3∨f=4∨f=5∨f=6∨f=7∨f=8∨f=9∨f=10∨f=11∨f=12∨f=13∨f=14∨f=15∨f=16∨f=17∨f=18∨f=19∨f=20:=by omega
  rcases this with rfl | rfl | rfl | rfl | rfl | rfl | rfl | rfl | rfl | rfl | rfl | rfl | rfl | rfl | rfl | rfl | rfl | rfl
  · exact globalRow3
  · exact globalRow4
  · exact globalRow5
  · exact globalRow6
  · exact globalRow7
  · exact globalRow8
  · exact globalRow9
  · exact globalRow10
  · exact globalRow11
  · exact globalRow12
  · exact globalRow13
  · exact globalRow14
  · exact globalRow15
  · exact globalRow16
  · exact globalRow17
  · exact globalRow18
  · exact globalRow19
  · exact globalRow20
 unfold globalRow at h
 have h5:=List.all_eq_true.1 h x (List.mem_range.2 (by omega))
 simp only [Bool.or_eq_true,decide_eq_true_eq] at h5
 rcases h5 with (h5 | h5) | h5
 · omega
 · omega
 · exact h5
theorem law_global (F x:Int) (w:World) (ht:Pol.TabIs w):Calls Tryz.prog 8 #[.int .i64 F,.int .i64 x] w fun e w'=>e=.returned (.bool true)∧Mod (fun _=>False) w w':=by
 have HT:=ζh ht
 have HW:=ζh (works_any w ht)
 clear ht
 by_cases hout:F < 3∨20 < F∨x < 1∨F≤x
 · have hO:=ζh hout
   go_enter Tryz.func8,Tryz.ntmps8
   go_wp2_with fail
   refine HW.out.mono ?_
   rintro e w1 ⟨rfl,m1⟩
   have M1:=ζh m1
   clear HW HT m1
   cases b1:decide (F < 3)
   case true =>
    go_wp2_with fail
    go_ret
    exact ⟨rfl,M1.out⟩
   case false =>
   cases b2:decide (20 < F)
   case true =>
    go_wp2_with fail
    go_ret
    exact ⟨rfl,M1.out⟩
   case false =>
   cases b3:decide (x < 1)
   case true =>
    go_wp2_with fail
    go_ret
    exact ⟨rfl,M1.out⟩
   case false =>
    have b4:decide (F≤x)=true:=by
     have:=hO.out
     simp at b1 b2 b3 ⊢
     omega
    go_wp2_with fail
    go_ret
    exact ⟨rfl,M1.out⟩
 · have hO:=ζh hout
   obtain ⟨f,hf⟩:∃ f:Nat,F=f:=⟨F.toNat,by omega⟩
   obtain ⟨y,hy⟩:∃ y:Nat,x=y:=⟨x.toNat,by omega⟩
   subst hf hy
   have hg:=globalM_at (f:=f) (x:=y) (by omega) (by omega) (by omega) (by omega)
   have l0:3≤f:=by omega
   have l1:f≤20:=by omega
   have l2:1≤y:=by omega
   have l3:y < f:=by omega
   obtain ⟨z,hz⟩:∃ z,z=f - y:=⟨_,rfl⟩
   unfold globalM at hg
   rw [Int.toNat_natCast,←hz] at hg
   obtain ⟨v0,hv0⟩:∃ v0,v0=VmM.new f 0 []:=⟨_,rfl⟩
   rw [←hv0] at hg
   obtain ⟨D,hD⟩:∃ D,D=doneM v0 opsG:=⟨_,rfl⟩
   rw [←hD] at hg
   obtain ⟨S0,hS0⟩:∃ S0,S0=storesM y D.2 0 30 0:=⟨_,rfl⟩
   dsimp only at hg
   rw [←hS0] at hg
   obtain ⟨S1,hS1⟩:∃ S1,S1=storesM z S0.2 1 60 0:=⟨_,rfl⟩
   rw [←hS1] at hg
   obtain ⟨A,hA⟩:∃ A,A=S1.2.doOp ⟨9,0,16 * y,9,0⟩:=⟨_,rfl⟩
   rw [←hA] at hg
   simp only [Bool.and_eq_true,decide_eq_true_eq] at hg
   obtain ⟨⟨⟨⟨⟨g1,g2⟩,g3⟩,g4⟩,g5⟩,g6⟩:=hg
   have HV0:=ζh hv0
   have HD:=ζh hD
   have HS0:=ζh hS0
   have HS1:=ζh hS1
   have HA:=ζh hA
   have G1:=ζh g1
   have G2:=ζh g2
   have G3:=ζh g3
   have G4:=ζh g4
   have G5:=ζh g5
   have G6:=ζh g6
   have HZ:=ζh hz
   have hzw:IntKind.i64.wrap ((f:Int) - (y:Int))=(z:Int):=by rw [wrap_small _ (by omega) (by omega)];omega
   have hyw:IntKind.i64.wrap (16 * (y:Int))=16 * (y:Int):=wrap_small _ (by omega) (by omega)
   clear hout hv0 hD hS0 hS1 hA g1 g2 g3 g4 g5 g6 hz
   go_enter Tryz.func8,Tryz.ntmps8
   go_wp2_with fail
   refine HW.out.mono ?_
   rintro e w1 ⟨rfl,m1⟩
   have HN:=ζh (vm_new f 0 [] (.slice none 0 0) w1 (Pol.TabIs.keep HT.out m1 (fun x=>x)) ⟨none,0,rfl,Nat.le_refl _,by unfold maxLen;omega,fun j hj=>by simp at hj⟩)
   have M1:=ζh m1
   have d1:decide ((f:Int) < 3)=false:=decide_eq_false (by omega)
   have d2:decide (20 < (f:Int))=false:=decide_eq_false (by omega)
   have d3:decide ((y:Int) < 1)=false:=decide_eq_false (by omega)
   have d4:decide ((f:Int)≤(y:Int))=false:=decide_eq_false (by omega)
   clear HW HT m1
   go_wp2_with fail
   refine HN.out.mono ?_
   rintro e w2 ⟨K,rfl,hk,st1⟩
   rw [←HV0.out] at st1
   have hi1:VIs 0 K.vb K v0:=⟨by rw [HV0.out];exact new_sm _ _ _,by rw [hk,HV0.out];rfl,rfl⟩
   obtain ⟨vb,hvb⟩:∃ vb,vb=K.vb:=⟨_,rfl⟩
   rw [←hvb] at hi1 ⊢
   have st2:=Step.localAt 4 (cs:=#[.int .i64 0,.int .i64 0,.int .i64 0,.int .i64 0,.int .i64 0,.int .i64 0,.int .i64 0,.int .i64 0,.int .i64 0,.int .i64 0,.int .i64 3,.int .i64 1,.int .i64 0,.int .i64 0,.int .i64 0,.int .i64 3,.int .i64 2,.int .i64 0,.int .i64 0,.int .i64 0,.int .i64 5,.int .i64 0,.int .i64 30,.int .i64 0,.int .i64 0,.int .i64 5,.int .i64 1,.int .i64 30,.int .i64 0,.int .i64 0]) (T:=27) st1
   obtain ⟨gb,hgb⟩:∃ gb,gb=w2.heap.size:=⟨_,rfl⟩
   rw [←hgb] at st2
   have HDN:=ζh (done_any (ls:=[blkP gb _ _]) (j:=0) opsG ⟨by decide,by decide⟩ rfl rfl hi1 (by omega) st2)
   have HGB:=ζh hgb
   have HVB:=ζh hvb
   clear st1 st2 hi1 hk HN hvb hgb
   go_wp2_with fail
   rw [←HGB.out]
   refine HDN.out.mono ?_
   rintro e w3 ⟨K3,rfl,hi3,st3⟩
   rw [←HD.out] at hi3 st3 ⊢
   rw [G1.out]
   have HSA:=ζh (stores_any (ls:=[]) 0 30 y (by omega) (by omega) (hi3.up (M:=1200) (by decide)) (by omega) (Step.dropAt 4 st3 rfl))
   clear hi3 st3 HDN HGB HVB
   go_wp2_with fail
   refine HSA.out.mono ?_
   rintro e w4 ⟨K4,rfl,hi4,st4⟩
   rw [←HS0.out] at hi4 st4 ⊢
   rw [G2.out]
   have HSB:=ζh (stores_any (ls:=[]) 1 60 z (by have:=HZ.out;omega) (by omega) hi4 (by omega) st4)
   clear hi4 st4 HSA
   go_wp2_with fail
   refine HSB.out.mono ?_
   rintro e w5 ⟨K5,rfl,hi5,st5⟩
   rw [←HS1.out] at hi5 st5 ⊢
   rw [G3.out]
   have hdo:=do_is (o:=⟨9,0,16 * y,9,0⟩) ⟨by show (9:Int)≠1;decide,by show (9:Int)≠7;decide,by show (9:Int)≠12;decide,by show KO 9;decide⟩ (hi5.up (M:=9000) (by have:=HZ.out;omega)) (by omega) st5
   rw [←HA.out] at hdo
   unfold opV at hdo
   have HDO:=ζh hdo
   clear hi5 st5 HSB hdo
   go_wp2_with fail
   refine HDO.out.mono ?_
   rintro e w6 ⟨K6,ka,kn,kc,rfl,hi6,st6⟩
   unfold ansV
   have st7:=Step.localAt 5 (cs:=#[.int .i64 A.1.err,.int .i64 A.1.n,.slice ka kn kc]) (T:=32) st6
   have hpr:=vm_procs (ls:=[rowP 3 1 (.slice ka kn kc) A.1.killed.length (A.1.killed.map encI),blkP w6.heap.size #[.int .i64 A.1.err,.int .i64 A.1.n,.slice ka kn kc] 32 ]) hi6.len hi6.sm.few st7
   rw [hi6.vb] at hpr
   obtain ⟨ab,hab⟩:∃ ab,ab=w6.heap.size:=⟨_,rfl⟩
   rw [←hab] at hpr
   have HPR:=ζh hpr
   have HAB:=ζh hab
   have HI:=ζh hi6
   clear hpr hab hi6 st6 st7 HDO
   go_wp2_with fail
   rw [←HAB.out]
   refine HPR.out.mono ?_
   rintro e w7 ⟨pv,rfl,st8⟩
   have hpl:A.2.procs.length=2:=by have:=G5.out;simpa using this
   obtain ⟨pa,pc,rfl⟩:=ownsRow_form (rowAtI 1 st8 rfl)
   obtain ⟨⟨q0,q1⟩,hq⟩:∃ q:(Int × Option SpM) × (Int × Option SpM),A.2.procs=[q.1,q.2]:=by
    match hx:A.2.procs with
    | [a,b]=>exact ⟨(a,b),rfl⟩
    | []=>rw [hx] at hpl;cases hpl
    | [_]=>rw [hx] at hpl;cases hpl
    | _::_::_::_=>rw [hx] at hpl;simp at hpl
   obtain ⟨kx,hkx⟩:∃ x,A.1.killed=[x]:=by
    have h4:=G4.out
    match hx:A.1.killed with
    | [a]=>exact ⟨a,rfl⟩
    | []=>rw [hx] at h4;cases h4
    | _::_::_=>rw [hx] at h4;simp at h4
   have st9:=Step.back 4 (Step.front 1 st8 rfl)
   have st9':Step w1 (fun _=>False) (VL K6 A.2++[rowP 37 3 (.slice pa A.2.procs.length pc) A.2.procs.length (A.2.prcs.flatMap Vic.ecP),rowP 3 1 (.slice ka kn kc) A.1.killed.length (A.1.killed.map encI),blkP ab #[.int .i64 A.1.err,.int .i64 A.1.n,.slice ka kn kc] 32 ]) w7:=st9
   rw [show A.2.prcs.flatMap Vic.ecP=[.int .i64 q0.1,.int .i64 (VmM.prc q0).size,.bool q0.2.isSome,.int .i64 q1.1,.int .i64 (VmM.prc q1).size,.bool q1.2.isSome] by unfold VmM.prcs;rw [hq];rfl,hpl,hkx] at st9'
   rw [hpl]
   have hrow:=rowAtI 4 st9' rfl
   have hkr:=rowAtI 5 st9' rfl
   obtain ⟨pg,rfl⟩:∃ g,pa=some ⟨g,0,none⟩:=by
    rcases id hrow.2 with ⟨_,h0⟩ | ⟨g,cap,cur,hv,_⟩
    · cases h0
    · injection hv with hv
      exact ⟨g,hv⟩
   obtain ⟨kg,hka,hkn⟩:∃ g,ka=some ⟨g,0,none⟩∧kn=1:=by
    rcases id hkr.2 with ⟨_,h0⟩ | ⟨g,cap,cur,hv,_⟩
    · cases h0
    · injection hv with hv1 hv2 hv3
      exact ⟨g,hv1,hv2⟩
   subst hka hkn
   have CELLS:∀ (K':VK) (v':VmM) (w':World),Step w1 (fun _=>False) (VL K' v'++[rowP 37 3 (.slice (some ⟨pg,0,none⟩) 2 pc) 2 [.int .i64 q0.1,.int .i64 (VmM.prc q0).size,.bool q0.2.isSome,.int .i64 q1.1,.int .i64 (VmM.prc q1).size,.bool q1.2.isSome],rowP 3 1 (.slice (some ⟨kg,0,none⟩) 1 kc) 1 [.int .i64 kx],blkP ab #[.int .i64 A.1.err,.int .i64 A.1.n,.slice (some ⟨kg,0,none⟩) 1 kc] 32 ]) w' →
    w'.cell? ⟨pg,2,none⟩=some (.bool q0.2.isSome)∧w'.cell? ⟨pg,5,none⟩=some (.bool q1.2.isSome)∧w'.cell? ⟨kg,0,none⟩=some (.int .i64 kx)∧w'.cell? ⟨ab,0,none⟩=some (.int .i64 A.1.err)∧w'.cell? ⟨ab,2,none⟩=some (.slice (some ⟨kg,0,none⟩) 1 kc):=by
    intro K' v' w' st
    have hrow:=rowAtI 4 st rfl
    have hkr:=rowAtI 5 st rfl
    have hbl:Blk w' ab #[.int .i64 A.1.err,.int .i64 A.1.n,.slice (some ⟨kg,0,none⟩) 1 kc] 32:=st.blk (ζm (i:=6) rfl)
    exact ⟨hrow.cellAt 2 (by decide),hrow.cellAt 5 (by decide),hkr.cellAt 0 (by decide),hbl.cell 0,hbl.cell 2⟩
   have g6:=G6.out
   rw [hq,hkx] at g6
   have ST9:=ζh st9'
   have M7:=ζh st8.mod
   have CE:=ζh CELLS
   obtain ⟨-,-,-,-,z2⟩:=CELLS _ _ _ st9'
   clear st8 st9 st9' hpl hrow hkr hq hkx HPR CELLS
   by_cases hzy:z≤y
   · rw [if_pos hzy] at g6
     simp only [Bool.and_eq_true,decide_eq_true_eq,List.map_cons,List.map_nil,List.cons.injEq,and_true] at g6
     obtain ⟨⟨⟨e1,e2⟩,e3,e4⟩,e5⟩:=g6
     have E5:=ζh e5
     have E1:=ζh e1
     have E2:=ζh e2
     have E3:=ζh e3
     have E4:=ζh e4
     have dzy:decide ((z:Int)≤(y:Int))=true:=decide_eq_true (by omega)
     have dzz:decide (z≤y)=true:=decide_eq_true hzy
     have HL:=ζh (loads_any 1 60 z (by have:=HZ.out;omega) (by omega) (HI.out.up (M:=10000) (by omega)) (by omega) ST9.out)
     clear e1 e2 e3 e4 e5 hzy G1 G2 G3 G4 G5 G6 HA HS0 HS1 HD HV0
     go_wp2_with fail
     refine HL.out.mono ?_
     rintro e w8 ⟨K8,rfl,hi8,st10⟩
     rw [E5.out]
     obtain ⟨y2,y5,x0,z0,z2'⟩:=CE.out _ _ _ st10
     rw [E1.out] at z0
     rw [E2.out] at x0
     rw [E3.out] at y2
     rw [E4.out] at y5
     have M8:=ζh (M1.out.trans' st10.mod (fun i hi h=>h))
     clear st10 hi8 HL CE z2 M7 ST9 HI E1 E2 E3 E4 E5
     go_wp2_with fail
     go_ret
     exact ⟨rfl,M8.out⟩
   · rw [if_neg hzy] at g6
     simp only [Bool.and_eq_true,decide_eq_true_eq,List.map_cons,List.map_nil,List.cons.injEq,and_true] at g6
     obtain ⟨⟨⟨e1,e2⟩,e3,e4⟩,e5⟩:=g6
     have E5:=ζh e5
     have E1:=ζh e1
     have E2:=ζh e2
     have E3:=ζh e3
     have E4:=ζh e4
     have dzy:decide ((z:Int)≤(y:Int))=false:=decide_eq_false (by omega)
     have dzz:decide (z≤y)=false:=decide_eq_false hzy
     have HL:=ζh (loads_any 0 30 y (by omega) (by omega) (HI.out.up (M:=10000) (by omega)) (by omega) ST9.out)
     clear e1 e2 e3 e4 e5 hzy G1 G2 G3 G4 G5 G6 HA HS0 HS1 HD HV0
     go_wp2_with fail
     refine HL.out.mono ?_
     rintro e w8 ⟨K8,rfl,hi8,st10⟩
     rw [E5.out]
     obtain ⟨y2,y5,x0,z0,z2'⟩:=CE.out _ _ _ st10
     rw [E1.out] at z0
     rw [E2.out] at x0
     rw [E3.out] at y2
     rw [E4.out] at y5
     have M8:=ζh (M1.out.trans' st10.mod (fun i hi h=>h))
     clear st10 hi8 HL CE z2 M7 ST9 HI E1 E2 E3 E4 E5
     go_wp2_with fail
     go_ret
     exact ⟨rfl,M8.out⟩
end

section
def opsO (most w:Nat):List Opn:=[⟨0,0,0,0,0⟩,⟨0,0,0,0,0⟩,⟨2,1,2,most,0⟩,⟨2,1,3,0,0⟩,⟨2,1,4,w,0⟩,⟨3,1,0,0,0⟩,⟨3,2,0,0,0⟩,⟨3,1,0,0,0⟩,⟨5,0,20,0,0⟩,⟨5,1,20,0,0⟩]
def onesM:Nat→VmM→Nat→Bool × VmM
 | 0,v,_=>(true,v)
 | n+1,v,k=>if (v.doOp ⟨9,0,16 * k,1,0⟩).1.err=0 then onesM n (v.doOp ⟨9,0,16 * k,1,0⟩).2 (k+1) else (false,(v.doOp ⟨9,0,16 * k,1,0⟩).2)
def oomM (most n w:Nat):Bool :=
 let d:=doneM (VmM.new 30 30 []) (opsO most w)
 let s0:=storesM n d.2 1 50 0
 let s1:=onesM most s0.2 0
 let a:=s1.2.doOp ⟨9,0,16 * most,1,0⟩
 d.1&&s0.1&&s1.1&&decide (a.1.err=13)&&decide (a.1.killed.length=1+w)&&decide (a.2.procs.map (·.2.isSome)=[false,true,w==0])&&(loadsM n a.2 1 50 0).1
def oomRow (most w:Nat):Bool:=(List.range 15).all fun n=>oomM most n w
theorem oomRow1a:oomRow 1 0=true:=by decide +kernel
theorem oomRow1b:oomRow 1 1=true:=by decide +kernel
theorem oomRow2a:oomRow 2 0=true:=by decide +kernel
theorem oomRow2b:oomRow 2 1=true:=by decide +kernel
theorem oomRow3a:oomRow 3 0=true:=by decide +kernel
theorem oomRow3b:oomRow 3 1=true:=by decide +kernel
theorem oomRow4a:oomRow 4 0=true:=by decide +kernel
theorem oomRow4b:oomRow 4 1=true:=by decide +kernel
theorem oomRow5a:oomRow 5 0=true:=by decide +kernel
theorem oomRow5b:oomRow 5 1=true:=by decide +kernel
theorem oomRow6a:oomRow 6 0=true:=by decide +kernel
theorem oomRow6b:oomRow 6 1=true:=by decide +kernel
theorem oomRow7a:oomRow 7 0=true:=by decide +kernel
theorem oomRow7b:oomRow 7 1=true:=by decide +kernel
theorem oomRow8a:oomRow 8 0=true:=by decide +kernel
theorem oomRow8b:oomRow 8 1=true:=by decide +kernel
end
end Go.Proofs.YtkfoeonggmlebaaGreatDoor
