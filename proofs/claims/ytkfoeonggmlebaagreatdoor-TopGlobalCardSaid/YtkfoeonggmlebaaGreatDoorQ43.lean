/-
  Contracts of the program's functions, and plain facts, towards the laws of millpondtop. No condition beyond those that each theorem bears.
-/
import Derived.Test.YtkfoeonggmlebaaGreatDoorQ42
import Derived.Test.YtkfoeonggmlebaaGreatDoorQAA
set_option maxRecDepth 100000
set_option maxHeartbeats 4000000
namespace Go.Proofs.YtkfoeonggmlebaaGreatDoor
section
open Go.RowKit Go.Shelf Go.ChangeShapes Go.WideShapes
open Ent (Ent)
open Go.Proofs.YtkfoeonggmlebaaGreatDoor.Reg
attribute [local go_sem] Oper.semAt_some
variable {w0 w:World} {F0:Nat→Prop} {A B C P:Part} {ls ps L:List Part} {K:VK} {v:VmM} {N:Nat} {c:CoM} {CKK:CK} {cb b:Nat} {o:Opn} {a:Ans} {kv:Value}
theorem vm_bring {i:Nat} (id:Int) (ho:o.a=i) (hi:i < v.procs.length) (hV:VOk N K v) (hN:N≤80000) (hkl:a.killed.length≤4000) (st:Step w0 F0 (VL K v++CL cb K.vb b o a kv++ls) w) :
 Calls Tryz.prog 110 #[.pointer (some ⟨cb,0,none⟩),.int .i64 id] w fun e w'=>∃ kv',e=.returned (.tuple #[.int .i64 (v.try_ o.a a (.bring id)).1.1,.bool (v.try_ o.a a (.bring id)).1.2])∧Step w0 F0 (VL K (v.try_ o.a a (.bring id)).2.2++CL cb K.vb b o (v.try_ o.a a (.bring id)).2.1 kv'++ls) w':=by
 have st1:Step w0 F0 (VL K v++CL cb K.vb b o a kv++(blkP w.heap.size #[.pointer (some ⟨cb,0,none⟩)] 64::ls)) (w.alloc (.cells #[.pointer (some ⟨cb,0,none⟩)] 64)):=st.localAt 6
 have st2:Step w0 F0 (VL K v++CL cb K.vb b o a kv++(blkP (w.heap.size+1) #[.int .i64 id] 3::blkP w.heap.size #[.pointer (some ⟨cb,0,none⟩)] 64::ls)) ((w.alloc (.cells #[.pointer (some ⟨cb,0,none⟩)] 64)).alloc (.cells #[.int .i64 id] 3)):=by
  have:=st1.localAt 6 (cs:=#[.int .i64 id]) (T:=3)
  rw [World.size_alloc] at this
  exact this
 have x0:=(st2.blk (ζm (i:=7) rfl):Blk _ w.heap.size #[.pointer (some ⟨cb,0,none⟩)] 64).cell 0
 simp only [ζa,ζb] at x0
 have htr:=vm_try ho hi hV hN hkl (do_bring id) st2
 obtain ⟨R,hR⟩:∃ R,R=v.try_ o.a a (.bring id):=⟨_,rfl⟩
 rw [←hR] at htr ⊢
 have HT:=ζh htr
 clear st st1 st2 htr hR hV ho hi
 go_enter Tryz.func110,Tryz.ntmps110
 go_wp2_with fail
 refine HT.out.mono ?_
 rintro e w1 ⟨kv',rfl,st3⟩
 have ST3:=ζh ((st3.dropAt 6 rfl).dropAt 6 rfl)
 clear st3 x0 HT
 go_wp2_with fail
 go_ret2
 exact ⟨_,rfl,ST3.out⟩
theorem do_open {r0 r1 r2:Nat} (p:Int) (x:Rg) (hx:validR x=true) (hp:x.a≤p∧p < x.b):DoAt w0 F0 K cb b o (blkP r2 (ecRg x).toArray 131::blkP r1 #[.int .i64 p] 3::blkP r0 #[.pointer (some ⟨cb,0,none⟩)] 64::ls) 112 #[.pointer (some ⟨r0,0,none⟩),.pointer (some ⟨r2,0,none⟩),.pointer (some ⟨r1,0,none⟩)] (.open (keyR x p).1 (keyR x p).2):=by
 refine ⟨?_,enters_of Tryz.func112 (by kernel_rfl) rfl⟩
 intro N v a kv g w hV hN st
 show Calls Tryz.prog 112 #[.int .i64 g,.pointer (some ⟨r0,0,none⟩),.pointer (some ⟨r2,0,none⟩),.pointer (some ⟨r1,0,none⟩)] w _
 have hc:=clAtI 4 st rfl
 have c5:=hc.c5
 have v0:=(vbAtI 1 st rfl).1
 have x0:=(st.blk (ζm (i:=8) rfl):Blk w r0 #[.pointer (some ⟨cb,0,none⟩)] 64).cell 0
 have x1:=(st.blk (ζm (i:=7) rfl):Blk w r1 #[.int .i64 p] 3).cell 0
 simp only [ζa,ζb] at x0 x1
 obtain ⟨y0,y1,y2,y3,y4,y5⟩:=rg_load (st.blk (ζm (i:=6) rfl):Blk w r2 (ecRg x).toArray 131)
 obtain ⟨n1,n2,n3,n4⟩:=validR_nums hx
 have hky:=rkey_any x p (fun h=>⟨(n4 h).1,n1,hp.1,by have:=(n4 h).2;omega⟩)
 have hop:=fun w' (hm:Mod (fun _=>False) w w')=>core_open (keyR x p).1 (keyR x p).2 g (N:=N) (by omega) hV.core.small (st.still hm)
 obtain ⟨R,hR⟩:∃ R,R=v.core.openF (keyR x p).1 (keyR x p).2 g:=⟨_,rfl⟩
 have hwh:VmM.what v.core g (.open (keyR x p).1 (keyR x p).2)=R:=by rw [hR];rfl
 rw [hwh]
 rw [←hR] at hop
 obtain ⟨⟨kf,ki⟩,hkk⟩:∃ k,k=keyR x p:=⟨_,rfl⟩
 rw [rg_agg] at hky
 rw [←hkk] at hky hop
 clear hkk
 simp only at hky hop
 have HKY:=ζh hky
 have HOP:=ζh hop
 have ST:=ζh st
 clear hc st hop hR hwh hky n1 n2 n3 n4 hV hx hp
 go_enter Tryz.func112,Tryz.ntmps112
 go_wp2_with fail
 go_region_held3 (fun w'=>w'.cell? ⟨r0,0,none⟩=some (.pointer (some ⟨cb,0,none⟩))∧w'.cell? ⟨cb,5,none⟩=some (.pointer (some ⟨K.vb,0,none⟩))∧w'.cell? ⟨K.vb,0,none⟩=some (.pointer (some ⟨K.co.b,0,none⟩))∧w'.cell? ⟨r1,0,none⟩=some (.int .i64 p)∧w'.cell? ⟨r2,0,none⟩=some (.int .i64 x.a)∧w'.cell? ⟨r2,1,none⟩=some (.int .i64 x.b)∧w'.cell? ⟨r2,2,none⟩=some (.int .i64 x.k)∧w'.cell? ⟨r2,3,none⟩=some (.int .i64 x.f)∧w'.cell? ⟨r2,4,none⟩=some (.int .i64 x.i)∧w'.cell? ⟨r2,5,none⟩=some (.bool x.wr)) (first | exact ⟨x0,c5,v0,x1,y0,y1,y2,y3,y4,y5⟩ | exact ⟨q0,q1,q2,q3,z0,z1,z2,z3,z4,z5⟩ | exact ⟨s0,s1,s2,s3,t0,t1,t2,t3,t4,t5⟩) (first
  | (go_at_call 114;refine (HKY.out _).mono ?_;rintro e w1 ⟨rfl,hm1⟩;have hm2:=((Mod.refl (fun _=>False) w).drew).trans hm1;have q0:=hm2.keeps x0 (fun x=>x);have q1:=hm2.keeps c5 (fun x=>x);have q2:=hm2.keeps v0 (fun x=>x);have q3:=hm2.keeps x1 (fun x=>x);have z0:=hm2.keeps y0 (fun x=>x);have z1:=hm2.keeps y1 (fun x=>x);have z2:=hm2.keeps y2 (fun x=>x);have z3:=hm2.keeps y3 (fun x=>x);have z4:=hm2.keeps y4 (fun x=>x);have z5:=hm2.keeps y5 (fun x=>x))
  | (go_at_call 113;refine (HOP.out _ hm2).mono ?_;rintro e w3 ⟨rfl,st3⟩;have s1:=(clAtI 4 (o:=o) (a:=a) st3 rfl).c5;have s2:=(vbAtI 1 st3 rfl).1;have s0:=(st3.blk (ζm (i:=8) rfl):Blk w3 r0 #[.pointer (some ⟨cb,0,none⟩)] 64).cell 0;have s3:=(st3.blk (ζm (i:=7) rfl):Blk w3 r1 #[.int .i64 p] 3).cell 0;simp only [ζa,ζb] at s0 s3;obtain ⟨t0,t1,t2,t3,t4,t5⟩:=rg_load (st3.blk (ζm (i:=6) rfl):Blk w3 r2 (ecRg x).toArray 131)))
 rename_i hHeld
 have ST3:=ζh st3
 clear hHeld st3 x0 x1 c5 v0 y0 y1 y2 y3 y4 y5 hm1 hm2 q0 q1 q2 q3 z0 z1 z2 z3 z4 z5 s0 s1 s2 s3 t0 t1 t2 t3 t4 t5 HOP HKY
 go_wp2_with fail
 go_ret3
 exact ⟨rfl,ST3.out⟩
end

section
open Go.RowKit Go.Shelf Go.ChangeShapes Go.WideShapes
open Ent (Ent)
open Go.Proofs.YtkfoeonggmlebaaGreatDoor.Reg
attribute [local go_sem] Oper.semAt_some
variable {w0 w:World} {F0:Nat→Prop} {A B C P:Part} {ls ps L:List Part} {K:VK} {v:VmM} {N:Nat} {c:CoM} {CKK:CK} {cb b:Nat} {o:Opn} {a:Ans} {kv:Value}
theorem exit_keep {i:Nat} {y:Int} (h:y≠i) (v:VmM):(v.exit y).procs[i]?=v.procs[i]?:=by
 unfold VmM.exit
 cases hs:v.space y with
 | none=>rfl
 | some s =>
   have h0:0≤y:=by
    unfold VmM.space at hs
    split at hs
    · assumption
    · cases hs
   unfold VmM.setSp
   simp only
   rw [List.getElem?_set_ne (by omega)]
theorem exits_keep {i:Nat}:∀ (d:List Int) (v:VmM),(i:Int)∉d→(d.foldl VmM.exit v).procs[i]?=v.procs[i]?
 | [],_,_=>rfl
 | y::d,v,h=>by
   rw [List.foldl_cons,exits_keep d _ (fun hm=>h (List.mem_cons_of_mem _ hm)),exit_keep (fun e=>h (e ▸ List.mem_cons_self)) v]
theorem kill_keep {i:Nat} {t:Int} (h:(v.kill i a t).1=true):(v.kill i a t).2.2.procs[i]?=v.procs[i]?:=by
 unfold VmM.kill at h ⊢
 simp only at h ⊢
 split at h
 · cases h
 · rename_i h1
   rw [if_neg h1]
   split at h
   · cases h
   · rename_i h2
     rw [if_neg h2]
     exact exits_keep _ _ h2
theorem tryF_keep {i:Nat} {x:VmM.What}:∀ (n N:Nat) (v:VmM) (a:Ans),VOk N K v→N+2 * n≤100000→(VmM.tryF n v i a x).1.2=true→(VmM.tryF n v i a x).2.2.procs[i]?=v.procs[i]? ∧
 ((∀ (c:CoM) (M:Nat) (g:Int),CSmall M c→M≤100000→(VmM.what c g x).1.2.2=0→∃ n:Nat,(VmM.what c g x).1.1=n∧n < 2 ^ 24)→∃ n':Nat,(VmM.tryF n v i a x).1.1=n'∧n' < 2 ^ 24):=by
 intro n
 induction n with
 | zero=>intro N v a _ _ h;cases h
 | succ n ih =>
   intro N v a hv hN h
   rw [tryF_succ] at h ⊢
   have hw:=what_small hv.core (by omega) (v.group i) x
   have h3:VOk (N+2) K { v with core:=(VmM.what v.core (v.group i) x).2 }:=hv.withCore (by omega) hw
   split at h
   · rename_i h0
     rw [if_pos h0]
     exact ⟨rfl,fun hx=>hx v.core N _ hv.core (by omega) h0⟩
   · rename_i h0
     rw [if_neg h0]
     split at h
     · cases h
     · rename_i h1
       rw [if_neg h1]
       split at h
       · rename_i h2
         rw [if_pos h2]
         have hk:=kill_ok h3 i (VmM.what v.core (v.group i) x).1.2.1 a
         obtain ⟨i1,i2⟩:=ih (N+2) _ _ hk.ok (by omega) h
         exact ⟨i1.trans (kill_keep h2),i2⟩
       · cases h
theorem try_keep {i:Nat} {x:VmM.What} (hv:VOk N K v) (hN:N≤80000) (h:(v.try_ i a x).1.2=true):(v.try_ i a x).2.2.procs[i]?=v.procs[i]? ∧
 ((∀ (c:CoM) (M:Nat) (g:Int),CSmall M c→M≤100000→(VmM.what c g x).1.2.2=0→∃ n:Nat,(VmM.what c g x).1.1=n∧n < 2 ^ 24)→∃ n':Nat,(v.try_ i a x).1.1=n'∧n' < 2 ^ 24) :=
 tryF_keep _ N v a hv (by have:=lives_le v;have:=hv.few;omega) h
theorem vm_there {i:Nat} {g:Int} {s:SpM} (p:Int) (x:Rg) (hx:validR x=true) (hpx:x.a≤p∧p < x.b) (hp:v.procs[i]?=some (g,some s)) (hb:K.sbs[i]?=some b) (ho:o.a=i) (hV:VOk N K v) (hN:N≤80000) (hkl:a.killed.length≤4000) (st:Step w0 F0 (VL K v++CL cb K.vb b o a kv++ls) w) :
 Calls Tryz.prog 67 #[.pointer (some ⟨cb,0,none⟩),.int .i64 p,.agg (ecRg x).toArray] w fun e w'=>∃ kv',e=.returned (.tuple #[.int .i64 (v.there o.a a p x).1.1,.bool (v.there o.a a p x).1.2])∧Step w0 F0 (VL K (v.there o.a a p x).2.2++CL cb K.vb b o (v.there o.a a p x).2.1 kv'++ls) w':=by
 have hi:=(ζi.1 hp).1
 obtain ⟨R,hR⟩:∃ R,R=v.there o.a a p x:=⟨_,rfl⟩
 have hR':=hR
 unfold VmM.there at hR'
 rw [ho,space_nat hp,←ho,Option.bind_some] at hR'
 rw [←hR]
 obtain ⟨r,hr⟩:∃ r,r=w.heap.size:=⟨_,rfl⟩
 have st1:Step w0 F0 (VL K v++CL cb K.vb b o a kv++(blkP r #[.pointer (some ⟨cb,0,none⟩)] 64::ls)) (w.alloc (.cells #[.pointer (some ⟨cb,0,none⟩)] 64)):=by
  rw [hr];exact st.localAt 6
 have st2:Step w0 F0 (VL K v++CL cb K.vb b o a kv++(blkP (r+1) #[.int .i64 p] 3::blkP r #[.pointer (some ⟨cb,0,none⟩)] 64::ls)) ((w.alloc (.cells #[.pointer (some ⟨cb,0,none⟩)] 64)).alloc (.cells #[.int .i64 p] 3)):=by
  have:=st1.localAt 6 (cs:=#[.int .i64 p]) (T:=3)
  rw [World.size_alloc,←hr] at this
  exact this
 have st3:Step w0 F0 (VL K v++CL cb K.vb b o a kv++(blkP (r+2) (ecRg x).toArray 131::blkP (r+1) #[.int .i64 p] 3::blkP r #[.pointer (some ⟨cb,0,none⟩)] 64::ls)) (((w.alloc (.cells #[.pointer (some ⟨cb,0,none⟩)] 64)).alloc (.cells #[.int .i64 p] 3)).alloc (.cells (ecRg x).toArray 131)):=by
  have:=st2.localAt 6 (cs:=(ecRg x).toArray) (T:=131)
  rw [World.size_alloc,World.size_alloc,←hr] at this
  exact this
 obtain ⟨wd,hwd⟩:∃ wd,wd=((w.alloc (.cells #[.pointer (some ⟨cb,0,none⟩)] 64)).alloc (.cells #[.int .i64 p] 3)).alloc (.cells (ecRg x).toArray 131):=⟨_,rfl⟩
 rw [←hwd] at st3
 rw [rg_agg] at hwd ⊢
 have x0:=(st3.blk (ζm (i:=8) rfl):Blk wd r #[.pointer (some ⟨cb,0,none⟩)] 64).cell 0
 have x1:=(st3.blk (ζm (i:=7) rfl):Blk wd (r+1) #[.int .i64 p] 3).cell 0
 simp only [ζa,ζb] at x0 x1
 have c6:=(clAtI 4 st3 rfl).c6
 have hen:=fun w' (hm:Mod (fun _=>False) wd w')=>sp_entry p (Step.pullAt 3 i (st3.still hm) rfl (spL_get hb hp))
 have ST3:=ζh st3
 have HWD:=ζh hwd
 have HEN:=ζh hen
 have HRR:=ζh hR'
 have HR0:=ζh hr
 have HP:=ζh hp
 have HB:=ζh hb
 have HO:=ζh ho
 have HV:=ζh hV
 have HX:=ζh hx
 have HPX:=ζh hpx
 have HI:=ζh hi
 clear st st1 st2 st3 hwd hen hR hR' hp hb ho hV hx hpx hi hr
 go_enter Tryz.func67,Tryz.ntmps67
 go_upto_region 1 with fail
 rw [←HWD.out,←HR0.out]
 cases he:s.entry p with
 | none =>
   rw [he] at HEN HRR
   simp only [entV,Option.isSome_none] at HEN HRR
   have hmb:=Mod.drew (Mod.refl (fun _=>False) wd)
   have hmc:=(Mod.alloc' (fun _=>False) wd (.cells #[.int .i64 0,.int .i64 0,.bool false,.bool false] 137)).drew
   have o0:=hmb.keeps x0 (fun x=>x)
   have o6:=hmb.keeps c6 (fun x=>x)
   have o1:=hmb.keeps x1 (fun x=>x)
   have p0:=hmc.keeps x0 (fun x=>x)
   have p6:=hmc.keeps c6 (fun x=>x)
   have p1:=hmc.keeps x1 (fun x=>x)
   go_region_held3 (fun w'=>w'.cell? ⟨r,0,none⟩=some (.pointer (some ⟨cb,0,none⟩))∧w'.cell? ⟨cb,6,none⟩=some (.pointer (some ⟨b,0,none⟩))∧w'.cell? ⟨r+1,0,none⟩=some (.int .i64 p)) (refine ⟨?_,?_,?_⟩<;>with_reducible assumption) (first
    | (go_at_call 66;with_reducible refine (HEN.out _ hmb).mono ?_;rintro e w1 ⟨rfl,hm1⟩;have hm2:=hmb.trans hm1;have q0:=hm2.keeps x0 (fun x=>x);have q6:=hm2.keeps c6 (fun x=>x);have q1:=hm2.keeps x1 (fun x=>x);have hm3:=hm2.alloc (.cells #[.int .i64 0,.int .i64 0,.bool false,.bool false] 137);have t0:=hm3.keeps x0 (fun x=>x);have t6:=hm3.keeps c6 (fun x=>x);have t1:=hm3.keeps x1 (fun x=>x);have ST5:=ζh ((ST3.out.still hm2).localAt 6 (cs:=#[.int .i64 0,.int .i64 0,.bool false,.bool false]) (T:=137)))
    | (go_at_call 66;with_reducible refine (HEN.out _ hmc).mono ?_;rintro e w1 ⟨rfl,hm1⟩;have hm2:=hmc.trans hm1;have q0:=hm2.keeps x0 (fun x=>x);have q6:=hm2.keeps c6 (fun x=>x);have q1:=hm2.keeps x1 (fun x=>x);have ST4:=ζh ((ST3.out.localAt 6 (cs:=#[.int .i64 0,.int .i64 0,.bool false,.bool false]) (T:=137)).drew.still hm1);have bz:=ST4.out.blk (ζm (i:=6) rfl);have z0:=bz.cell 0;have z1:=bz.cell 1;have z2:=bz.cell 2;have z3:=bz.cell 3;simp only [ζa,ζb,ζc] at z0 z1 z2 z3;have f0:=bz.frozen 0;have f1:=(bz.set 0 (.int .i64 0)).frozen 1;have f2:=((bz.set 0 (.int .i64 0)).set 1 (.int .i64 0)).frozen 2;have f3:=(((bz.set 0 (.int .i64 0)).set 1 (.int .i64 0)).set 2 (.bool false)).frozen 3;clear bz;have ST5:=ζh ((((ST4.out.setAt 6 (j:=0) (v:=.int .i64 0) rfl).setAt 6 (j:=1) (v:=.int .i64 0) rfl).setAt 6 (j:=2) (v:=.bool false) rfl).setAt 6 (j:=3) (v:=.bool false) rfl);have t6:=(clAtI 4 (o:=o) (a:=a) ST5.out rfl).c6;have t0:=(ST5.out.blk (ζm (i:=9) rfl):Blk _ r #[.pointer (some ⟨cb,0,none⟩)] 64).cell 0;have t1:=(ST5.out.blk (ζm (i:=8) rfl):Blk _ (r+1) #[.int .i64 p] 3).cell 0;simp only [ζa,ζb] at t0 t1))
   all_goals
    rename_i hHeld
    clear hHeld o0 o6 o1 p0 p6 p1 q0 q6 q1 t6 t1 hmb hmc hm1 hm2 x0 x1 c6
    have ST6:Hid (Step w0 F0 (VL K v++CL cb K.vb b o a kv++(blkP (r+2) (ecRg x).toArray 131::blkP (r+1) #[.int .i64 p] 3::blkP r #[.pointer (some ⟨cb,0,none⟩)] 64::ls)) _):=ζh (ST5.out.dropAt 6 rfl)
    have htr:=vm_try HO.out HI.out HV.out hN hkl (do_open p x HX.out HPX.out) ST6.out
    have hkeep:=try_keep (i:=i) (a:=a) (x:=.open (keyR x p).1 (keyR x p).2) HV.out hN
    rw [←HO.out] at hkeep
    obtain ⟨⟨⟨id,ok⟩,qa,qv⟩,hQ⟩:∃ Q,Q=v.try_ o.a a (.open (keyR x p).1 (keyR x p).2):=⟨_,rfl⟩
    have hrr:=HRR.out
    rw [←hQ] at htr hkeep hrr
    dsimp only at htr hkeep hrr
    have HTR:=ζh htr
    have HKEEP:=ζh hkeep
    have HRX:=ζh hrr
    clear htr hkeep hrr hQ HRR ST6 ST5
    try clear hm3
    try clear z0 z1 z2 z3 f0 f1 f2 f3 ST4
    cases ok with
    | true =>
      obtain ⟨k1,k2⟩:=HKEEP.out rfl
      obtain ⟨n,rfl,hn⟩:=k2 (fun c M g hc hM he=>open_id hc (by omega) _ _ g he)
      rw [HP.out] at k1
      have hr:=HRX.out
      rw [if_pos rfl,HO.out] at hr
      have K1:=ζh k1
      have HR:=ζh hr
      have HNN:=ζh hn
      clear k1 hr hn k2
      go_wp2_with fail
      refine HTR.out.mono ?_
      rintro e w4 ⟨kv',rfl,st7⟩
      have y0:=(st7.blk (ζm (i:=8) rfl):Blk w4 r #[.pointer (some ⟨cb,0,none⟩)] 64).cell 0
      have y1:=(st7.blk (ζm (i:=7) rfl):Blk w4 (r+1) #[.int .i64 p] 3).cell 0
      simp only [ζa,ζb] at y0 y1
      have y5:=(rg_load (st7.blk (ζm (i:=6) rfl):Blk w4 (r+2) (ecRg x).toArray 131)).2.2.2.2.2
      have hent:=vm_enter (kd:=2) p x.wr K1.out HB.out (.inr rfl) HNN.out st7
      have HENT:=ζh hent
      clear hent st7 HTR t0
      go_wp2_with fail
      refine HENT.out.mono ?_
      rintro e w5 ⟨rfl,st8⟩
      have ST8:=ζh (((st8.dropAt 6 rfl).dropAt 6 rfl).dropAt 6 rfl)
      clear st8 y0 y1 y5 HENT
      go_wp2_with fail
      go_ret2
      rw [HR.out]
      exact ⟨_,rfl,ST8.out⟩
    | false =>
      have hr:=HRX.out
      first | rw [if_neg (by decide)] at hr | rw [if_neg (fun h=>h)] at hr
      have HR:=ζh hr
      clear hr
      go_wp2_with fail
      refine HTR.out.mono ?_
      rintro e w4 ⟨kv',rfl,st7⟩
      have ST8:=ζh (((st7.dropAt 6 rfl).dropAt 6 rfl).dropAt 6 rfl)
      clear st7 HTR t0
      go_wp2_with fail
      go_ret2
      rw [HR.out]
      exact ⟨_,rfl,ST8.out⟩
 | some en =>
   rw [he] at HEN HRR
   simp only [entV,Option.isSome_some,Ent.val] at HEN HRR
   have hmb:=Mod.drew (Mod.refl (fun _=>False) wd)
   have hmc:=(Mod.alloc' (fun _=>False) wd (.cells #[.int .i64 0,.int .i64 0,.bool false,.bool false] 137)).drew
   have o0:=hmb.keeps x0 (fun x=>x)
   have o6:=hmb.keeps c6 (fun x=>x)
   have o1:=hmb.keeps x1 (fun x=>x)
   have p0:=hmc.keeps x0 (fun x=>x)
   have p6:=hmc.keeps c6 (fun x=>x)
   have p1:=hmc.keeps x1 (fun x=>x)
   go_region_held3 (fun w'=>w'.cell? ⟨r,0,none⟩=some (.pointer (some ⟨cb,0,none⟩))∧w'.cell? ⟨cb,6,none⟩=some (.pointer (some ⟨b,0,none⟩))∧w'.cell? ⟨r+1,0,none⟩=some (.int .i64 p)) (refine ⟨?_,?_,?_⟩<;>with_reducible assumption) (first
    | (go_at_call 66;with_reducible refine (HEN.out _ hmb).mono ?_;rintro e w1 ⟨rfl,hm1⟩;have hm2:=hmb.trans hm1;have q0:=hm2.keeps x0 (fun x=>x);have q6:=hm2.keeps c6 (fun x=>x);have q1:=hm2.keeps x1 (fun x=>x);have hm4:=hm2.alloc (.cells #[.int .i64 0,.int .i64 0,.bool false,.bool false] 137);have s0:=hm4.keeps x0 (fun x=>x);have s6:=hm4.keeps c6 (fun x=>x);have s1:=hm4.keeps x1 (fun x=>x);have hm3:=hm2.alloc (.cells #[.int .i64 en.kind,.int .i64 en.page,.bool en.wr,.bool en.tc] 137);have t0:=hm3.keeps x0 (fun x=>x);have t6:=hm3.keeps c6 (fun x=>x);have t1:=hm3.keeps x1 (fun x=>x);have ST5:=ζh ((ST3.out.still hm2).localAt 6 (cs:=#[.int .i64 en.kind,.int .i64 en.page,.bool en.wr,.bool en.tc]) (T:=137)))
    | (go_at_call 66;with_reducible refine (HEN.out _ hmc).mono ?_;rintro e w1 ⟨rfl,hm1⟩;have hm2:=hmc.trans hm1;have q0:=hm2.keeps x0 (fun x=>x);have q6:=hm2.keeps c6 (fun x=>x);have q1:=hm2.keeps x1 (fun x=>x);have ST4:=ζh ((ST3.out.localAt 6 (cs:=#[.int .i64 0,.int .i64 0,.bool false,.bool false]) (T:=137)).drew.still hm1);have bz:=ST4.out.blk (ζm (i:=6) rfl);have z0:=bz.cell 0;have z1:=bz.cell 1;have z2:=bz.cell 2;have z3:=bz.cell 3;simp only [ζa,ζb,ζc] at z0 z1 z2 z3;have f0:=bz.frozen 0;have f1:=(bz.set 0 (.int .i64 en.kind)).frozen 1;have f2:=((bz.set 0 (.int .i64 en.kind)).set 1 (.int .i64 en.page)).frozen 2;have f3:=(((bz.set 0 (.int .i64 en.kind)).set 1 (.int .i64 en.page)).set 2 (.bool en.wr)).frozen 3;clear bz;have ST5:=ζh ((((ST4.out.setAt 6 (j:=0) (v:=.int .i64 en.kind) rfl).setAt 6 (j:=1) (v:=.int .i64 en.page) rfl).setAt 6 (j:=2) (v:=.bool en.wr) rfl).setAt 6 (j:=3) (v:=.bool en.tc) rfl);have t6:=(clAtI 4 (o:=o) (a:=a) ST5.out rfl).c6;have t0:=(ST5.out.blk (ζm (i:=9) rfl):Blk _ r #[.pointer (some ⟨cb,0,none⟩)] 64).cell 0;have t1:=(ST5.out.blk (ζm (i:=8) rfl):Blk _ (r+1) #[.int .i64 p] 3).cell 0;simp only [ζa,ζb] at t0 t1))
   all_goals
    rename_i hHeld
    clear hHeld o0 o6 o1 p0 p6 p1 q0 q6 q1 t6 t1 hmb hmc hm1 hm2 x0 x1 c6
    have hbr:=vm_bring (en.page:Int) HO.out HI.out HV.out hN hkl ST5.out
    have ye:=(ST5.out.blk (ζm (i:=6) rfl)).cell 1
    have HBR:=ζh hbr
    clear hbr ST5
    simp only [List.setIfInBounds_toArray,List.set_cons_zero,List.set_cons_succ,ζa,ζb,ζc] at ye
    try clear hm3
    try clear hm4 s0 s6 s1
    try clear z0 z1 z2 z3 f0 f1 f2 f3 ST4
    go_wp2_with fail
    refine HBR.out.mono ?_
    rintro e w4 ⟨kv',rfl,st7⟩
    have ST8:=ζh ((((st7.dropAt 6 rfl).dropAt 6 rfl).dropAt 6 rfl).dropAt 6 rfl)
    clear st7 HBR t0 ye
    go_wp2_with fail
    go_ret2
    rw [HRR.out]
    exact ⟨_,rfl,ST8.out⟩
end

section
open Go.RowKit Go.Shelf Go.ChangeShapes Go.WideShapes
open Ent (Ent)
attribute [local go_sem] Oper.semAt_some
variable {w0 w:World} {F0:Nat→Prop} {A B C P:Part} {ls ps L:List Part} {K:VK} {v:VmM} {N:Nat} {c:CoM} {CKK:CK} {cb b:Nat} {o:Opn} {a:Ans} {kv:Value}
def enC (e:Ent):Array Value:=#[.int .i64 e.kind,.int .i64 e.page,.bool e.wr,.bool e.tc]
theorem do_copy {rc re rh:Nat} (e:Ent):DoAt w0 F0 K cb b o (A::blkP rh #[.bool true] 4::blkP re (enC e) 137::blkP rc #[.pointer (some ⟨cb,0,none⟩)] 64::ls) 122 #[.pointer (some ⟨rh,0,none⟩),.pointer (some ⟨rc,0,none⟩),.pointer (some ⟨re,0,none⟩)] (.copy e.page):=by
 refine ⟨?_,enters_of Tryz.func122 (by kernel_rfl) rfl⟩
 intro N v a kv g w hV hN st
 show Calls Tryz.prog 122 #[.int .i64 g,.pointer (some ⟨rh,0,none⟩),.pointer (some ⟨rc,0,none⟩),.pointer (some ⟨re,0,none⟩)] w _
 have hc:=clAtI 4 st rfl
 have c5:=hc.c5
 have v0:=(vbAtI 1 st rfl).1
 have x0:=(st.blk (ζm (i:=9) rfl):Blk w rc #[.pointer (some ⟨cb,0,none⟩)] 64).cell 0
 have x2:=(st.blk (ζm (i:=7) rfl):Blk w rh #[.bool true] 4).cell 0
 have x1:w.cell? ⟨re,1,none⟩=some (.int .i64 e.page):=(st.blk (ζm (i:=8) rfl):Blk w re (enC e) 137).cell 1
 simp only [ζa,ζb] at x0 x2
 have hcp:=core_copy e.page g (N:=N) (by omega) hV.core.small st.drew
 obtain ⟨R,hR⟩:∃ R,R=v.core.copy e.page g:=⟨_,rfl⟩
 have hwh:VmM.what v.core g (.copy e.page)=R:=by rw [hR];rfl
 rw [hwh]
 rw [←hR] at hcp
 have HCP:=ζh hcp
 clear hc st hcp hR hwh hV
 go_enter Tryz.func122,Tryz.ntmps122
 go_wp2_with fail
 go_region_held3 (fun w'=>w'.cell? ⟨rc,0,none⟩=some (.pointer (some ⟨cb,0,none⟩))∧w'.cell? ⟨cb,5,none⟩=some (.pointer (some ⟨K.vb,0,none⟩))∧w'.cell? ⟨K.vb,0,none⟩=some (.pointer (some ⟨K.co.b,0,none⟩))∧w'.cell? ⟨re,1,none⟩=some (.int .i64 e.page)) (first | exact ⟨x0,c5,v0,x1⟩ | exact ⟨y0,d5,u0,y1⟩) (first
  | (go_at_call 123;refine HCP.out.mono ?_;rintro e1 w1 ⟨rfl,st1⟩;have d5:=(clAtI 4 (o:=o) (a:=a) st1 rfl).c5;have u0:=(vbAtI 1 st1 rfl).1;have y0:=(st1.blk (ζm (i:=9) rfl):Blk w1 rc #[.pointer (some ⟨cb,0,none⟩)] 64).cell 0;have y1:w1.cell? ⟨re,1,none⟩=some (.int .i64 e.page):=(st1.blk (ζm (i:=8) rfl):Blk w1 re (enC e) 137).cell 1;simp only [ζa,ζb] at y0))
 rename_i hHeld
 have ST1:=ζh st1
 clear hHeld st1 x0 x1 x2 c5 v0 d5 u0 y0 y1 HCP
 go_wp2_with fail
 go_ret3
 exact ⟨rfl,ST1.out⟩
theorem do_fresh {rc re rh:Nat} {ce:Array Value}:DoAt w0 F0 K cb b o (A::blkP rh #[.bool false] 4::blkP re ce 137::blkP rc #[.pointer (some ⟨cb,0,none⟩)] 64::ls) 122 #[.pointer (some ⟨rh,0,none⟩),.pointer (some ⟨rc,0,none⟩),.pointer (some ⟨re,0,none⟩)] .fresh:=by
 refine ⟨?_,enters_of Tryz.func122 (by kernel_rfl) rfl⟩
 intro N v a kv g w hV hN st
 show Calls Tryz.prog 122 #[.int .i64 g,.pointer (some ⟨rh,0,none⟩),.pointer (some ⟨rc,0,none⟩),.pointer (some ⟨re,0,none⟩)] w _
 have c5:=(clAtI 4 st rfl).c5
 have v0:=(vbAtI 1 st rfl).1
 have x0:=(st.blk (ζm (i:=9) rfl):Blk w rc #[.pointer (some ⟨cb,0,none⟩)] 64).cell 0
 have x2:=(st.blk (ζm (i:=7) rfl):Blk w rh #[.bool false] 4).cell 0
 simp only [ζa,ζb] at x0 x2
 have hcp:=core_fresh g (N:=N) (by omega) hV.core.small st
 obtain ⟨R,hR⟩:∃ R,R=v.core.fresh g:=⟨_,rfl⟩
 have hwh:VmM.what v.core g .fresh=R:=by rw [hR];rfl
 rw [hwh]
 rw [←hR] at hcp
 have HCP:=ζh hcp
 clear st hcp hR hwh hV
 go_enter Tryz.func122,Tryz.ntmps122
 go_wp2_with fail
 refine HCP.out.mono ?_
 rintro e w1 ⟨rfl,st1⟩
 have ST1:=ζh st1
 clear st1 x0 x2 c5 v0 HCP
 go_wp2_with fail
 go_ret3
 exact ⟨rfl,ST1.out⟩
end

section
open Go.RowKit Go.Shelf Go.ChangeShapes Go.WideShapes
open Ent (Ent)
attribute [local go_sem] Oper.semAt_some
variable {w0 w:World} {F0:Nat→Prop} {A B C P:Part} {ls ps L:List Part} {K:VK} {v:VmM} {N:Nat} {c:CoM} {CKK:CK} {cb b:Nat} {o:Opn} {a:Ans} {kv:Value}
theorem withT_id {N:Nat} {c:CoM} (h:CSmall N c) (hN:N≤1000000) (g:Int) (t:List Int) (he:(c.withT g t).1.2.2=0):∃ n:Nat,(c.withT g t).1.1=n∧n < 2 ^ 24:=by
 have hn:=h.small.next
 have hk:=take_took h.small g
 unfold CoM.withT at he ⊢
 simp only at he ⊢
 split at he
 · rename_i h1;exact absurd he h1
 · rename_i h1
   rw [if_neg h1]
   exact ⟨c.pages.next.toNat,by show (c.take g).2.pages.next=_;rw [hk.next];omega,by omega⟩
theorem fresh_id {N:Nat} {c:CoM} (h:CSmall N c) (hN:N≤1000000) (g:Int) (he:(c.fresh g).1.2.2=0):∃ n:Nat,(c.fresh g).1.1=n∧n < 2 ^ 24:=by
 unfold CoM.fresh at he ⊢
 split at he
 · rename_i h1;rw [if_pos h1];exact withT_id h hN g _ he
 · cases he
theorem copy_id {N:Nat} {c:CoM} (h:CSmall N c) (hN:N≤1000000) (id g:Int) (he:(c.copy id g).1.2.2=0):∃ n:Nat,(c.copy id g).1.1=n∧n < 2 ^ 24:=by
 unfold CoM.copy at he ⊢
 split at he
 · cases he
 · rename_i h1;rw [if_neg h1];exact withT_id h hN g _ he
set_option maxHeartbeats 8000000 in
theorem vm_own {i:Nat} {g:Int} {s:SpM} (p:Int) (hp:v.procs[i]?=some (g,some s)) (hb:K.sbs[i]?=some b) (ho:o.a=i) (hV:VOk N K v) (hN:N≤80000) (hkl:a.killed.length≤4000) (st:Step w0 F0 (VL K v++CL cb K.vb b o a kv++ls) w) :
 Calls Tryz.prog 71 #[.pointer (some ⟨cb,0,none⟩),.int .i64 p] w fun e w'=>∃ kv',e=.returned (.tuple #[.int .i64 (v.ownP o.a a p).1.1,.bool (v.ownP o.a a p).1.2])∧Step w0 F0 (VL K (v.ownP o.a a p).2.2++CL cb K.vb b o (v.ownP o.a a p).2.1 kv'++ls) w':=by
 have hi:=(ζi.1 hp).1
 obtain ⟨R,hR⟩:∃ R,R=v.ownP o.a a p:=⟨_,rfl⟩
 have hR':=hR
 unfold VmM.ownP at hR'
 rw [ho,space_nat hp,←ho,Option.bind_some] at hR'
 rw [←hR]
 obtain ⟨r,hr⟩:∃ r,r=w.heap.size:=⟨_,rfl⟩
 have st1:Step w0 F0 (VL K v++CL cb K.vb b o a kv++(blkP r #[.pointer (some ⟨cb,0,none⟩)] 64::ls)) (w.alloc (.cells #[.pointer (some ⟨cb,0,none⟩)] 64)):=by
  rw [hr];exact st.localAt 6
 have x0:=(st1.blk (ζm (i:=6) rfl):Blk _ r #[.pointer (some ⟨cb,0,none⟩)] 64).cell 0
 simp only [ζa,ζb] at x0
 have c6:=(clAtI 4 st1 rfl).c6
 have hen:=sp_entry p (Step.pullAt 3 i st1 rfl (spL_get hb hp))
 obtain ⟨wd,hwd⟩:∃ wd,wd=w.alloc (.cells #[.pointer (some ⟨cb,0,none⟩)] 64):=⟨_,rfl⟩
 rw [←hwd] at st1 x0 c6 hen
 have ST1:=ζh st1
 have HWD:=ζh hwd
 have HEN:=ζh hen
 have HRR:=ζh hR'
 have HR0:=ζh hr
 have HP:=ζh hp
 have HB:=ζh hb
 have HO:=ζh ho
 have HV:=ζh hV
 have HI:=ζh hi
 clear st st1 hwd hen hR hR' hp hb ho hV hi hr
 go_enter Tryz.func71,Tryz.ntmps71
 go_upto_region 1 with fail
 rw [←HWD.out,←HR0.out]
 obtain ⟨en,has,hes,hEN⟩:∃ (en:Ent) (has:Bool),((s.entry p=none∧has=false∧en=⟨0,0,false,false⟩)∨(s.entry p=some en∧has=true))∧Calls Tryz.prog 66 #[.pointer (some ⟨b,0,none⟩),.int .i64 p] wd fun e w'=>e=.returned (.tuple #[.agg #[.int .i64 en.kind,.int .i64 en.page,.bool en.wr,.bool en.tc],.bool has])∧Mod (fun _=>False) wd w':=by
  cases he:s.entry p with
  | none=>exact ⟨⟨0,0,false,false⟩,false,.inl ⟨rfl,rfl,rfl⟩,by have:=HEN.out;rw [he] at this;exact this⟩
  | some en=>exact ⟨en,true,.inr ⟨rfl,rfl⟩,by have:=HEN.out;rw [he] at this;exact this⟩
 have HES:=ζh hes
 have HEN2:=ζh hEN
 clear hes hEN HEN
 go_wp2_with fail
 refine HEN2.out.mono ?_
 rintro e w1 ⟨rfl,hm1⟩
 have st2:=ST1.out.still hm1
 have ST2:=ζh st2
 clear hm1 st2 x0 c6 HEN2
 go_upto_region 2 with fail
 obtain ⟨re,hre⟩:∃ re,re=w1.heap.size:=⟨_,rfl⟩
 have st3:Step w0 F0 (VL K v++CL cb K.vb b o a kv++(blkP (re+1) #[.bool has] 4::blkP re (enC en) 137::blkP r #[.pointer (some ⟨cb,0,none⟩)] 64::ls)) ((w1.alloc (.cells (enC en) 137)).alloc (.cells #[.bool has] 4)):=by
  have h1:=ST2.out.localAt 6 (cs:=enC en) (T:=137)
  have h2:=Step.localAt 6 (cs:=#[.bool has]) (T:=4) h1
  rw [World.size_alloc,←hre] at h2
  exact h2
 rw [←hre]
 unfold enC at st3
 obtain ⟨we,hwe⟩:∃ we,we=(w1.alloc (.cells #[.int .i64 en.kind,.int .i64 en.page,.bool en.wr,.bool en.tc] 137)).alloc (.cells #[.bool has] 4):=⟨_,rfl⟩
 rw [←hwe] at st3 ⊢
 have hpgc:=fun (W:World) (l:List Part) (st:Step w0 F0 (coreP K.co v.core::l) W)=>core_page en.page st
 obtain ⟨⟨pf,pi,pp,pa,po,pr,pd⟩,hpg⟩:∃ pg,pg=v.core.page en.page:=⟨_,rfl⟩
 rw [←hpg] at hpgc
 unfold Pag.PG.val Pag.PG.cells at hpgc
 dsimp only at hpgc
 have HPG:=ζh hpg
 have HPC:=ζh hpgc
 have ST3:=ζh st3
 clear hre hwe hpg hpgc st3 ST2
 have HC1:=ζh (HPC.out _ _ ST3.out.drew)
 have HC2:=ζh (HPC.out _ _ (ST3.out.localAt 6 (cs:=#[.int .i64 0,.int .i64 0,.int .i64 0,.int .i64 0,.int .i64 0,.int .i64 0,.int .i64 0,.bool false,.bool false]) (T:=198)).drew)
 have x5:=(clAtI 4 (o:=o) (a:=a) ST3.out rfl).c5
 have x0:=(vbAtI 1 ST3.out rfl).1
 have x1:=((ST3.out.blk (ζm (i:=8) rfl)):Blk we r #[.pointer (some ⟨cb,0,none⟩)] 64).cell 0
 have x2:=((ST3.out.blk (ζm (i:=7) rfl)):Blk we re (enC en) 137).cell 1
 simp only [enC,ζa,ζb,ζc] at x1 x2
 have o5:=(clAtI 4 (o:=o) (a:=a) ST3.out.drew rfl).c5
 have o0:=(vbAtI 1 ST3.out.drew rfl).1
 have o1:=((ST3.out.drew.blk (ζm (i:=8) rfl)):Blk we.drew r #[.pointer (some ⟨cb,0,none⟩)] 64).cell 0
 have o2:=((ST3.out.drew.blk (ζm (i:=7) rfl)):Blk we.drew re (enC en) 137).cell 1
 simp only [enC,ζa,ζb,ζc] at o1 o2
 have p5:=(clAtI 4 (o:=o) (a:=a) (ST3.out.localAt 6 (cs:=#[.int .i64 0,.int .i64 0,.int .i64 0,.int .i64 0,.int .i64 0,.int .i64 0,.int .i64 0,.bool false,.bool false]) (T:=198)).drew rfl).c5
 have p0:=(vbAtI 1 (ST3.out.localAt 6 (cs:=#[.int .i64 0,.int .i64 0,.int .i64 0,.int .i64 0,.int .i64 0,.int .i64 0,.int .i64 0,.bool false,.bool false]) (T:=198)).drew rfl).1
 have p1:=(((ST3.out.localAt 6 (cs:=#[.int .i64 0,.int .i64 0,.int .i64 0,.int .i64 0,.int .i64 0,.int .i64 0,.int .i64 0,.bool false,.bool false]) (T:=198)).drew.blk (ζm (i:=9) rfl)):Blk _ r #[.pointer (some ⟨cb,0,none⟩)] 64).cell 0
 have p2:=(((ST3.out.localAt 6 (cs:=#[.int .i64 0,.int .i64 0,.int .i64 0,.int .i64 0,.int .i64 0,.int .i64 0,.int .i64 0,.bool false,.bool false]) (T:=198)).drew.blk (ζm (i:=8) rfl)):Blk _ re (enC en) 137).cell 1
 simp only [enC,ζa,ζb,ζc] at p1 p2
 go_region_held3 (fun w'=>w'.cell? ⟨r,0,none⟩=some (.pointer (some ⟨cb,0,none⟩))∧w'.cell? ⟨cb,5,none⟩=some (.pointer (some ⟨K.vb,0,none⟩))∧w'.cell? ⟨K.vb,0,none⟩=some (.pointer (some ⟨K.co.b,0,none⟩))∧w'.cell? ⟨re,1,none⟩=some (.int .i64 en.page)) (refine ⟨?_,?_,?_,?_⟩<;>with_reducible assumption) (first
  | (go_at_call 121;with_reducible refine HC1.out.mono ?_;rintro e w2 ⟨rfl,st4⟩;have q5:=(clAtI 4 (o:=o) (a:=a) st4 rfl).c5;have q0:=(vbAtI 1 st4 rfl).1;have q1:=((st4.blk (ζm (i:=8) rfl)):Blk w2 r #[.pointer (some ⟨cb,0,none⟩)] 64).cell 0;have q2:=((st4.blk (ζm (i:=7) rfl)):Blk w2 re (enC en) 137).cell 1;simp only [enC,ζa,ζb,ζc] at q1 q2;have s5:=(clAtI 4 (o:=o) (a:=a) (st4.localAt 6 (cs:=#[.int .i64 0,.int .i64 0,.int .i64 0,.int .i64 0,.int .i64 0,.int .i64 0,.int .i64 0,.bool false,.bool false]) (T:=198)) rfl).c5;have s0:=(vbAtI 1 (st4.localAt 6 (cs:=#[.int .i64 0,.int .i64 0,.int .i64 0,.int .i64 0,.int .i64 0,.int .i64 0,.int .i64 0,.bool false,.bool false]) (T:=198)) rfl).1;have s1:=(((st4.localAt 6 (cs:=#[.int .i64 0,.int .i64 0,.int .i64 0,.int .i64 0,.int .i64 0,.int .i64 0,.int .i64 0,.bool false,.bool false]) (T:=198)).blk (ζm (i:=9) rfl)):Blk _ r #[.pointer (some ⟨cb,0,none⟩)] 64).cell 0;have s2:=(((st4.localAt 6 (cs:=#[.int .i64 0,.int .i64 0,.int .i64 0,.int .i64 0,.int .i64 0,.int .i64 0,.int .i64 0,.bool false,.bool false]) (T:=198)).blk (ζm (i:=8) rfl)):Blk _ re (enC en) 137).cell 1;simp only [enC,ζa,ζb,ζc] at s1 s2;have ST5:=ζh (st4.localAt 6 (cs:=#[.int .i64 pf,.int .i64 pi,.int .i64 pp,.int .i64 pa,.int .i64 po,.int .i64 pr,.int .i64 0,.bool false,.bool pd]) (T:=198));clear st4;have t5:=(clAtI 4 (o:=o) (a:=a) ST5.out rfl).c5;have t0:=(vbAtI 1 ST5.out rfl).1;have t1:=((ST5.out.blk (ζm (i:=9) rfl)):Blk _ r #[.pointer (some ⟨cb,0,none⟩)] 64).cell 0;have t2:=((ST5.out.blk (ζm (i:=8) rfl)):Blk _ re (enC en) 137).cell 1;simp only [enC,ζa,ζb,ζc] at t1 t2)
  | (go_at_call 121;with_reducible refine HC2.out.mono ?_;rintro e w2 ⟨rfl,st4⟩;have ST4:=ζh st4;clear st4;have q5:=(clAtI 4 (o:=o) (a:=a) ST4.out rfl).c5;have q0:=(vbAtI 1 ST4.out rfl).1;have q1:=((ST4.out.blk (ζm (i:=9) rfl)):Blk w2 r #[.pointer (some ⟨cb,0,none⟩)] 64).cell 0;have q2:=((ST4.out.blk (ζm (i:=8) rfl)):Blk w2 re (enC en) 137).cell 1;simp only [enC,ζa,ζb,ζc] at q1 q2;have bz:=ST4.out.blk (ζm (i:=6) rfl);have z0:=bz.cell 0;have z1:=bz.cell 1;have z2:=bz.cell 2;have z3:=bz.cell 3;have z4:=bz.cell 4;have z5:=bz.cell 5;have z6:=bz.cell 6;have z7:=bz.cell 7;have z8:=bz.cell 8;simp only [ζa,ζb,ζc] at z0 z1 z2 z3 z4 z5 z6 z7 z8;have f0:=bz.frozen 0;have f1:=(bz.set 0 (.int .i64 pf)).frozen 1;have f2:=((bz.set 0 (.int .i64 pf)).set 1 (.int .i64 pi)).frozen 2;have f3:=(((bz.set 0 (.int .i64 pf)).set 1 (.int .i64 pi)).set 2 (.int .i64 pp)).frozen 3;have f4:=((((bz.set 0 (.int .i64 pf)).set 1 (.int .i64 pi)).set 2 (.int .i64 pp)).set 3 (.int .i64 pa)).frozen 4;have f5:=(((((bz.set 0 (.int .i64 pf)).set 1 (.int .i64 pi)).set 2 (.int .i64 pp)).set 3 (.int .i64 pa)).set 4 (.int .i64 po)).frozen 5;have f6:=((((((bz.set 0 (.int .i64 pf)).set 1 (.int .i64 pi)).set 2 (.int .i64 pp)).set 3 (.int .i64 pa)).set 4 (.int .i64 po)).set 5 (.int .i64 pr)).frozen 6;have f7:=(((((((bz.set 0 (.int .i64 pf)).set 1 (.int .i64 pi)).set 2 (.int .i64 pp)).set 3 (.int .i64 pa)).set 4 (.int .i64 po)).set 5 (.int .i64 pr)).set 6 (.int .i64 0)).frozen 7;have f8:=((((((((bz.set 0 (.int .i64 pf)).set 1 (.int .i64 pi)).set 2 (.int .i64 pp)).set 3 (.int .i64 pa)).set 4 (.int .i64 po)).set 5 (.int .i64 pr)).set 6 (.int .i64 0)).set 7 (.bool false)).frozen 8;clear bz;have ST5:=ζh (((((((((ST4.out.setAt 6 (j:=0) (v:=.int .i64 pf) rfl).setAt 6 (j:=1) (v:=.int .i64 pi) rfl).setAt 6 (j:=2) (v:=.int .i64 pp) rfl).setAt 6 (j:=3) (v:=.int .i64 pa) rfl).setAt 6 (j:=4) (v:=.int .i64 po) rfl).setAt 6 (j:=5) (v:=.int .i64 pr) rfl).setAt 6 (j:=6) (v:=.int .i64 0) rfl).setAt 6 (j:=7) (v:=.bool false) rfl).setAt 6 (j:=8) (v:=.bool pd) rfl);have t5:=(clAtI 4 (o:=o) (a:=a) ST5.out rfl).c5;have t0:=(vbAtI 1 ST5.out rfl).1;have t1:=((ST5.out.blk (ζm (i:=9) rfl)):Blk _ r #[.pointer (some ⟨cb,0,none⟩)] 64).cell 0;have t2:=((ST5.out.blk (ζm (i:=8) rfl)):Blk _ re (enC en) 137).cell 1;simp only [enC,ζa,ζb,ζc] at t1 t2))
 all_goals
  rename_i hHeld
  clear hHeld x0 x1 x2 x5 o0 o1 o2 o5 p0 p1 p2 p5 q0 q1 q2 q5 t0 t5 HC1 HC2 HPC
  try clear s0 s1 s2 s5
  try clear ST4 z0 z1 z2 z3 z4 z5 z6 z7 z8 f0 f1 f2 f3 f4 f5 f6 f7 f8
  have bp5:=(ST5.out.blk (ζm (i:=6) rfl)).cell 5
  simp only [List.setIfInBounds_toArray,List.set_cons_zero,List.set_cons_succ,ζa,ζb,ζc] at bp5
  have bh:=(ST5.out.blk (ζm (i:=7) rfl):Blk _ (re+1) #[.bool has] 4).cell 0
  simp only [ζa,ζb] at bh
  rcases HES.out with ⟨he,rfl,rfl⟩ | ⟨he,rfl⟩
  · have hrr:=HRR.out
    rw [he] at hrr
    simp only at hrr
    have htr:=vm_try HO.out HI.out HV.out hN hkl do_fresh ST5.out
    have hkeep:=try_keep (i:=i) (a:=a) (x:=.fresh) HV.out hN
    rw [←HO.out] at hkeep
    obtain ⟨⟨⟨id,ok⟩,qa,qv⟩,hQ⟩:∃ Q,Q=v.try_ o.a a .fresh:=⟨_,rfl⟩
    rw [←hQ] at htr hkeep hrr
    dsimp only at htr hkeep hrr
    have HTR:=ζh htr
    have HKEEP:=ζh hkeep
    have HRX:=ζh hrr
    clear htr hkeep hrr hQ HRR ST5 he HES
    cases ok with
    | true =>
      obtain ⟨k1,k2⟩:=HKEEP.out rfl
      obtain ⟨n,rfl,hn⟩:=k2 (fun c M g hc hM he=>fresh_id hc (by omega) g he)
      rw [HP.out] at k1
      have hr:=HRX.out
      rw [if_pos rfl,HO.out] at hr
      have K1:=ζh k1
      have HR:=ζh hr
      have HNN:=ζh hn
      clear k1 hr hn k2
      go_wp2_with fail
      refine HTR.out.mono ?_
      rintro e w4 ⟨kv',rfl,st7⟩
      have y0:=(st7.blk (ζm (i:=9) rfl):Blk w4 r #[.pointer (some ⟨cb,0,none⟩)] 64).cell 0
      simp only [ζa,ζb] at y0
      have hent:=vm_enter (kd:=1) p true K1.out HB.out (.inl rfl) HNN.out st7
      have HENT:=ζh hent
      clear hent st7 HTR t1 t2 bp5 bh
      go_wp2_with fail
      refine HENT.out.mono ?_
      rintro e w5 ⟨rfl,st8⟩
      have y1:=(st8.blk (ζm (i:=7) rfl):Blk w5 (re+1) #[.bool false] 4).cell 0
      simp only [ζa,ζb] at y1
      have ST8:=ζh ((((st8.dropAt 6 rfl).dropAt 6 rfl).dropAt 6 rfl).dropAt 6 rfl)
      clear st8 y0 HENT
      go_wp2_with fail
      go_ret2
      rw [HR.out]
      exact ⟨_,rfl,ST8.out⟩
    | false =>
      have hr:=HRX.out
      first | rw [if_neg (by decide)] at hr | rw [if_neg (fun h=>h)] at hr
      have HR:=ζh hr
      clear hr
      go_wp2_with fail
      refine HTR.out.mono ?_
      rintro e w4 ⟨kv',rfl,st7⟩
      have ST8:=ζh ((((st7.dropAt 6 rfl).dropAt 6 rfl).dropAt 6 rfl).dropAt 6 rfl)
      clear st7 HTR t1 t2 bp5 bh
      go_wp2_with fail
      go_ret2
      rw [HR.out]
      exact ⟨_,rfl,ST8.out⟩
  · have hrr:=HRR.out
    rw [he] at hrr
    simp only at hrr
    rw [←HPG.out] at hrr
    dsimp only at hrr
    by_cases hpr:pr≤1
    · have d1:decide (pr≤1)=true:=decide_eq_true hpr
      rw [if_pos hpr] at hrr
      have hbr:=vm_bring (en.page:Int) HO.out HI.out HV.out hN hkl ST5.out
      have HBR:=ζh hbr
      have HRX:=ζh hrr
      clear hbr hrr ST5 he HES HRR hpr
      go_wp2_with fail
      refine HBR.out.mono ?_
      rintro e w4 ⟨kv',rfl,st7⟩
      have ST8:=ζh ((((st7.dropAt 6 rfl).dropAt 6 rfl).dropAt 6 rfl).dropAt 6 rfl)
      clear st7 HBR t1 t2 bp5 bh
      go_wp2_with fail
      go_ret2
      rw [HRX.out]
      exact ⟨_,rfl,ST8.out⟩
    · have d1:decide (pr≤1)=false:=decide_eq_false hpr
      rw [if_neg hpr] at hrr
      have htr:=vm_try HO.out HI.out HV.out hN hkl (do_copy en) ST5.out
      have hkeep:=try_keep (i:=i) (a:=a) (x:=.copy en.page) HV.out hN
      rw [←HO.out] at hkeep
      obtain ⟨⟨⟨id,ok⟩,qa,qv⟩,hQ⟩:∃ Q,Q=v.try_ o.a a (.copy en.page):=⟨_,rfl⟩
      rw [←hQ] at htr hkeep hrr
      dsimp only at htr hkeep hrr
      have HTR:=ζh htr
      have HKEEP:=ζh hkeep
      have HRX:=ζh hrr
      clear htr hkeep hrr hQ HRR ST5 he HES hpr
      cases ok with
      | true =>
        obtain ⟨k1,k2⟩:=HKEEP.out rfl
        obtain ⟨n,rfl,hn⟩:=k2 (fun c M g hc hM he=>copy_id hc (by omega) _ g he)
        rw [HP.out] at k1
        have hr:=HRX.out
        rw [if_pos rfl,HO.out] at hr
        have K1:=ζh k1
        have HR:=ζh hr
        have HNN:=ζh hn
        clear k1 hr hn k2
        go_wp2_with fail
        refine HTR.out.mono ?_
        rintro e w4 ⟨kv',rfl,st7⟩
        have y0:=(st7.blk (ζm (i:=9) rfl):Blk w4 r #[.pointer (some ⟨cb,0,none⟩)] 64).cell 0
        simp only [ζa,ζb] at y0
        have hent:=vm_enter (kd:=1) p true K1.out HB.out (.inl rfl) HNN.out st7
        have HENT:=ζh hent
        clear hent st7 HTR t1 t2 bp5 bh
        go_wp2_with fail
        refine HENT.out.mono ?_
        rintro e w5 ⟨rfl,st8⟩
        have y1:=(st8.blk (ζm (i:=7) rfl):Blk w5 (re+1) #[.bool true] 4).cell 0
        have y2:=(st8.blk (ζm (i:=8) rfl):Blk w5 re (enC en) 137).cell 1
        have y3:=(st8.blk (ζm (i:=9) rfl):Blk w5 r #[.pointer (some ⟨cb,0,none⟩)] 64).cell 0
        have y5:=(clAtI 4 (o:=o) (a:=qa) st8 rfl).c5
        have y6:=(vbAtI 1 st8 rfl).1
        simp only [enC,ζa,ζb,ζc] at y1 y2 y3
        have hrf:=core_refer en.page (-1) (by omega) st8.drew
        have HRF:=ζh hrf
        clear st8 y0 HENT hrf
        go_wp2_with fail
        go_still_tail 9,(by kernel_rfl)
        go_wp2_with fail
        refine HRF.out.mono ?_
        rintro e w6 ⟨⟨y,rfl⟩,st9⟩
        have ST9:=ζh ((((st9.dropAt 6 rfl).dropAt 6 rfl).dropAt 6 rfl).dropAt 6 rfl)
        clear st9 y1 y2 y3 y5 y6 HRF
        go_wp2_with fail
        go_ret2
        rw [HR.out]
        exact ⟨_,rfl,ST9.out⟩
      | false =>
        have hr:=HRX.out
        first | rw [if_neg (by decide)] at hr | rw [if_neg (fun h=>h)] at hr
        have HR:=ζh hr
        clear hr
        go_wp2_with fail
        refine HTR.out.mono ?_
        rintro e w4 ⟨kv',rfl,st7⟩
        have ST8:=ζh ((((st7.dropAt 6 rfl).dropAt 6 rfl).dropAt 6 rfl).dropAt 6 rfl)
        clear st7 HTR t1 t2 bp5 bh
        go_wp2_with fail
        go_ret2
        rw [HR.out]
        exact ⟨_,rfl,ST8.out⟩
end
end Go.Proofs.YtkfoeonggmlebaaGreatDoor
