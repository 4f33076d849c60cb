/-
  Contracts of the program's functions, and plain facts, towards the laws of millpondtop. No condition beyond those that each theorem bears.
-/
import Derived.ChangeMaps5
import Derived.Test.YtkfoeonggmlebaaGreatDoorQ32
import Derived.Test.YtkfoeonggmlebaaGreatDoorQ46
import Derived.Test.YtkfoeonggmlebaaGreatDoorQAA
set_option maxRecDepth 100000
set_option maxHeartbeats 4000000
namespace Go.Proofs.YtkfoeonggmlebaaGreatDoor
section
open Go.RowKit Go.Shelf Go.ChangeShapes Go.WideShapes
open Go.ChangeMaps (setBlock)
attribute [local go_sem] Oper.semAt_some
theorem map_ins {W:World} {r t kt et cl:Nat} {es:Array MapEntry} (x:Int) (v:Value) (hu:Tryz.prog.underlying t=some (.map kt et)) (hk:Tryz.prog.underlying kt=some (.int .i64))
 (hb:W.heap[r]?=some (.map es cl)) (hf:Instr.findNow (.int .i64) (.int .i64 x) es.toList 0=some none) :
 ∃ W',(Instr.mapUpdate t (.map (some r)) (.int .i64 x) v).run Tryz.prog W=.ok () W'∧W'.heap[r]?=some (.map (es.push ⟨.int .i64 x,v,cl⟩) (cl+1))∧Mod (fun b=>b=r) W W':=by
 refine ⟨setBlock W r (.map (es.push ⟨.int .i64 x,v,cl⟩) (cl+1)),?_,ChangeMaps.heap_setBlock_same hb _,rfl,rfl,rfl,by simp [setBlock],fun k _ hne=>ChangeMaps.heap_setBlock_other hb _ hne⟩
 have hck:MapKept.IsKey (.int .i64) (.int .i64 x):=by simp [MapKept.IsKey]
 simp [Instr.mapUpdate,run_underlying hu,MapKept.run_getObj_map hb,MapKept.run_checkKey hk hck,MapKept.run_findKey hk hf,MapKept.run_setObj_map _ hb,Result.andThen,setBlock]
theorem map_get {W:World} {r t kt et cl:Nat} {es:Array MapEntry} {x:Int} {z:Value} {a:Option (Nat × Value)} (hu:Tryz.prog.underlying t=some (.map kt et)) (hk:Tryz.prog.underlying kt=some (.int .i64))
 (hb:W.heap[r]?=some (.map es cl)) (hf:Instr.findNow (.int .i64) (.int .i64 x) es.toList 0=some a) (hz:∀ w,(zeroValue et).run Tryz.prog w=.ok z w) :
 (Instr.lookup t (.map (some r)) (.int .i64 x) false).run Tryz.prog W=.ok ((a.map (·.2)).getD z) W:=by
 have hck:MapKept.IsKey (.int .i64) (.int .i64 x):=by simp [MapKept.IsKey]
 cases a with
 | none=>simp [Instr.lookup,run_underlying hu,MapKept.run_getObj_map hb,MapKept.run_checkKey hk hck,MapKept.run_findKey hk hf,Result.andThen,hz]
 | some q=>simp [Instr.lookup,run_underlying hu,MapKept.run_getObj_map hb,MapKept.run_checkKey hk hck,MapKept.run_findKey hk hf,Result.andThen]
theorem mod_new {w w':World} (h:Mod (fun b=>b=w.heap.size) w w'):Mod (fun _=>False) w w':=⟨h.os,h.tape,h.output,h.size,fun k hk _=>h.block k hk (by omega)⟩
abbrev fnV (n:Nat):Value:=.func (.func n) #[] #[]
def opsE:Array MapEntry:=#[⟨.int .i64 0,fnV 31,0⟩,⟨.int .i64 1,fnV 32,1⟩,⟨.int .i64 2,fnV 33,2⟩,⟨.int .i64 3,fnV 34,3⟩,⟨.int .i64 12,fnV 35,4⟩,⟨.int .i64 13,fnV 36,5⟩]
def callsE:Array MapEntry:=#[⟨.int .i64 4,fnV 37,0⟩,⟨.int .i64 11,fnV 38,1⟩,⟨.int .i64 5,fnV 39,2⟩,⟨.int .i64 6,fnV 40,3⟩,⟨.int .i64 7,fnV 41,4⟩,⟨.int .i64 8,fnV 42,5⟩,⟨.int .i64 9,fnV 43,6⟩,⟨.int .i64 10,fnV 44,7⟩]
theorem vm_machines (w:World):Calls Tryz.prog 21 #[] w fun e w'=>e=.returned (.map (some w.heap.size))∧w'.heap[w.heap.size]?=some (.map opsE 6)∧Mod (fun _=>False) w w':=by
 have hu:Tryz.prog.underlying 57=some (.map 25 56):=by kernel_rfl
 have hk:Tryz.prog.underlying 25=some (.int .i64):=by kernel_rfl
 have hmm:=@run_makeMap Tryz.prog
 have m0:=Mod.alloc' (fun b=>b=w.heap.size) w (.map #[] 0)
 have h0:(w.alloc (.map #[] 0)).heap[w.heap.size]?=some (.map #[] 0):=(MapKept.heap_alloc w _).1
 obtain ⟨w1,r1,h1,m1⟩:=map_ins 0 (fnV 31) hu hk h0 rfl
 obtain ⟨w2,r2,h2,m2⟩:=map_ins 1 (fnV 32) hu hk h1 rfl
 obtain ⟨w3,r3,h3,m3⟩:=map_ins 2 (fnV 33) hu hk h2 rfl
 obtain ⟨w4,r4,h4,m4⟩:=map_ins 3 (fnV 34) hu hk h3 rfl
 obtain ⟨w5,r5,h5,m5⟩:=map_ins 12 (fnV 35) hu hk h4 rfl
 obtain ⟨w6,r6,h6,m6⟩:=map_ins 13 (fnV 36) hu hk h5 rfl
 have HM:=ζh ((((((m0.trans m1).trans m2).trans m3).trans m4).trans m5).trans m6)
 have H6:Hid (w6.heap[w.heap.size]?=some (.map opsE 6)):=ζh h6
 clear h0 h1 h2 h3 h4 h5 h6 m0 m1 m2 m3 m4 m5 m6 hu hk
 go_enter Tryz.func21,Tryz.ntmps21
 go_wp2_with fail
 go_ret
 exact ⟨rfl,H6.out,mod_new HM.out⟩
theorem vm_calls (w:World):Calls Tryz.prog 22 #[] w fun e w'=>e=.returned (.map (some w.heap.size))∧w'.heap[w.heap.size]?=some (.map callsE 8)∧Mod (fun _=>False) w w':=by
 have hu:Tryz.prog.underlying 60=some (.map 25 59):=by kernel_rfl
 have hk:Tryz.prog.underlying 25=some (.int .i64):=by kernel_rfl
 have hmm:=@run_makeMap Tryz.prog
 have m0:=Mod.alloc' (fun b=>b=w.heap.size) w (.map #[] 0)
 have h0:(w.alloc (.map #[] 0)).heap[w.heap.size]?=some (.map #[] 0):=(MapKept.heap_alloc w _).1
 obtain ⟨w1,r1,h1,m1⟩:=map_ins 4 (fnV 37) hu hk h0 rfl
 obtain ⟨w2,r2,h2,m2⟩:=map_ins 11 (fnV 38) hu hk h1 rfl
 obtain ⟨w3,r3,h3,m3⟩:=map_ins 5 (fnV 39) hu hk h2 rfl
 obtain ⟨w4,r4,h4,m4⟩:=map_ins 6 (fnV 40) hu hk h3 rfl
 obtain ⟨w5,r5,h5,m5⟩:=map_ins 7 (fnV 41) hu hk h4 rfl
 obtain ⟨w6,r6,h6,m6⟩:=map_ins 8 (fnV 42) hu hk h5 rfl
 obtain ⟨w7,r7,h7,m7⟩:=map_ins 9 (fnV 43) hu hk h6 rfl
 obtain ⟨w8,r8,h8,m8⟩:=map_ins 10 (fnV 44) hu hk h7 rfl
 have HM:=ζh ((((((((m0.trans m1).trans m2).trans m3).trans m4).trans m5).trans m6).trans m7).trans m8)
 have H8:Hid (w8.heap[w.heap.size]?=some (.map callsE 8)):=ζh h8
 clear h0 m0 h1 m1 h2 m2 h3 m3 h4 m4 h5 m5 h6 m6 h7 m7 h8 m8 hu hk
 go_enter Tryz.func22,Tryz.ntmps22
 go_wp2_with fail
 go_ret
 exact ⟨rfl,H8.out,mod_new HM.out⟩
end

section
open Go.RowKit Go.Shelf Go.ChangeShapes Go.WideShapes
attribute [local go_sem] Oper.semAt_some
variable {w0 w:World} {F0:Nat→Prop} {A B C P:Part} {ls ps L:List Part} {K:VK} {v:VmM} {N:Nat} {c:CoM} {CKK:CK} {cb b:Nat} {o:Opn} {a:Ans} {kv:Value}
def DoPost (w0:World) (F0:Nat→Prop) (K:VK) (ls:List Part) (R:Ans × VmM) (e:Ending) (w':World):Prop :=
 ∃ (pv kv:Value) (gv uv:Value) (bs:List Nat),e=.returned (ansV R.1 kv)∧bs.length=R.2.procs.length∧Step w0 F0 (VL ⟨K.vb,{ K.co with gv:=gv,uv:=uv },pv,bs⟩ R.2++(rowP 3 1 kv R.1.killed.length (R.1.killed.map encI)::ls)) w'
theorem zero56 (w:World):(zeroValue 56).run Tryz.prog w=.ok .nilFunc w:=by kernel_rfl
theorem zero59 (w:World):(zeroValue 59).run Tryz.prog w=.ok .nilFunc w:=by kernel_rfl
theorem neq56 (f:Nat) (w:World):(binOp BinOp.neq 56 (fnV f) .nilFunc).run Tryz.prog w=.ok (.bool true) w:=by kernel_rfl
theorem neq56n (w:World):(binOp BinOp.neq 56 .nilFunc .nilFunc).run Tryz.prog w=.ok (.bool false) w:=by kernel_rfl
theorem eql59 (f:Nat) (w:World):(binOp BinOp.eql 59 (fnV f) .nilFunc).run Tryz.prog w=.ok (.bool false) w:=by kernel_rfl
theorem eql59n (w:World):(binOp BinOp.eql 59 .nilFunc .nilFunc).run Tryz.prog w=.ok (.bool true) w:=by kernel_rfl
theorem do_mach {fn i:Nat} {R:Ans × VmM} (hfn:Instr.findNow (.int .i64) (.int .i64 o.kind) opsE.toList 0=some (some (i,fnV fn)))
 (hent:∀ (args:Array Value) (w':World),(callFunc fn args).run Tryz.prog w'=.ok (.enter fn args) w')
 (hc:∀ (l:List Part) (w':World),Step w0 F0 (VL K v++l) w'→Calls Tryz.prog fn #[.pointer (some ⟨K.vb,0,none⟩),opV o] w' fun e w''=>DoPost w0 F0 K l R e w'')
 (st:Step w0 F0 (VL K v++ls) w) :
 Calls Tryz.prog 12 #[.pointer (some ⟨K.vb,0,none⟩),opV o] w fun e w'=>DoPost w0 F0 K ls R e w':=by
 obtain ⟨r,wb,hr,hwb,st1⟩:=mach_blocks o st
 have c0:=(opAtI 5 st1 rfl).c0
 have HU:Hid (Tryz.prog.underlying 57=some (.map 25 56)):=ζh (by kernel_rfl)
 have HK:Hid (Tryz.prog.underlying 25=some (.int .i64)):=ζh (by kernel_rfl)
 have HMA:Hid (Calls Tryz.prog 21 #[] wb.drew fun e w'=>∃ q,e=.returned (.map (some q))∧w'.heap[q]?=some (.map opsE 6)∧Mod (fun _=>False) wb.drew w') :=
  ζh ((vm_machines wb.drew).mono (fun e w' h=>⟨_,h⟩))
 have HR:=ζh hr
 unfold opC at hwb
 have HWB2:=ζh hwb
 have HC:=ζh hc
 have HFN:=ζh hfn
 have ST:=ζh st1
 clear st st1 hr hwb hc hfn
 unfold opV
 go_enter Tryz.func12,Tryz.ntmps12
 go_upto_region 1 with fail
 rw [←HWB2.out,←HR.out]
 go_region_held3 (fun w'=>w'.cell? ⟨r,0,none⟩=some (.int .i64 o.kind)) (first | exact c0 | exact q0) (first
  | (go_at_call 21;with_reducible refine HMA.out.mono ?_;rintro e w1 ⟨q,rfl,hmp,hm1⟩;have hlk:=map_get (t:=57) HU.out HK.out hmp HFN.out zero56;simp only [Option.map_some,Option.getD_some] at hlk;have HMP:=ζh hmp;clear hmp;have q0:=(((Mod.refl (fun _=>False) wb).drew).trans hm1).keeps c0 (fun x=>x)))
 rename_i hHeld
 have st2:=ST.out.still (((Mod.refl (fun _=>False) wb).drew).trans hm1)
 obtain ⟨d0,d1,d2,d3,d4⟩:=opAtI 5 (o:=o) st2 rfl
 have hcall:=HC.out (blkP (r+1) ansZ 32::blkP r (opC o) 27::ls) w1 st2
 unfold opV at hcall
 have HCALL:=ζh hcall
 clear hHeld q0 c0 hlk hm1 st2 HMA HMP HC ST hcall
 have hne:=neq56 fn
 go_wp2_with fail
 with_reducible refine HCALL.out.mono ?_
 rintro e w2 ⟨pv,kv,gv,uv,bs,rfl,hbs,st3⟩
 obtain ⟨⟨ae,an,ak⟩,av⟩:=R
 dsimp only at hbs st3
 obtain ⟨ka,kc,hkv⟩:=ownsRow_form (rowAtI 4 st3 rfl)
 obtain ⟨kn,hkn⟩:∃ kn,kn=ak.length:=⟨_,rfl⟩
 rw [←hkn] at hkv
 subst hkv
 obtain ⟨hst,hbf,st4⟩:=ans_set 5 st3 rfl rfl ae an ka kn kc
 have ST5:=ζh ((Step.dropAt 5 st4 rfl).dropAt 5 rfl)
 have HST:=ζh hst
 have HBF:=ζh hbf
 have HBS:=ζh hbs
 have HKN:=ζh hkn
 clear hst hbf st4 hbs st3 HCALL d0 d1 d2 d3 d4 hkn
 unfold ansV
 go_wp2_with (refine Byt.wpList_storeBy rfl 32 _ _ (by rfl) ⟨r+1,0,none⟩ _ (by rfl) (by rfl) HST.out ?_)
 refine bodyPost_ret (res_ans rfl rfl HBF.out) rfl ?_
 exact ⟨pv,.slice ka kn kc,gv,uv,bs,rfl,HBS.out,ST5.out⟩
end

section
open Go.RowKit Go.Shelf Go.ChangeShapes Go.WideShapes
attribute [local go_sem] Oper.semAt_some
variable {w0 w:World} {F0:Nat→Prop} {A B C P:Part} {ls ps L:List Part} {K:VK} {v:VmM} {N:Nat} {c:CoM} {CKK:CK} {cb b:Nat} {o:Opn} {a:Ans} {kv:Value}
def spOf (K:VK) (v:VmM) (pid:Int):Value:=match v.space pid with
 | some _=>.pointer (some ⟨K.sbs.getD pid.toNat 0,0,none⟩)
 | none=>.pointer none
theorem vm_spaceAny (pid:Int) (hk:K.sbs.length=v.procs.length) (st:Step w0 F0 (VL K v++ls) w) :
 Calls Tryz.prog 23 #[.pointer (some ⟨K.vb,0,none⟩),.int .i64 pid] w fun e w'=>e=.returned (spOf K v pid)∧w=w':=by
 by_cases hp:pid < 0∨(v.procs.length:Int)≤pid
 · have hs:v.space pid=none:=by
    unfold VmM.space
    split
    · rw [List.getElem?_eq_none (by omega)];rfl
    · rfl
   unfold spOf
   rw [hs]
   exact vm_space_none hp st
 · obtain ⟨i,rfl⟩:∃ i:Nat,pid=i:=⟨pid.toNat,by omega⟩
   have hi:i < v.procs.length:=by omega
   obtain ⟨⟨g,s⟩,hq⟩:∃ q,v.procs[i]?=some q:=⟨_,ζg hi⟩
   have hb:K.sbs[i]?=some (K.sbs.getD i 0):=by rw [List.getD_eq_getElem?_getD,ζg (by omega)];rfl
   have:=vm_space_some hq hb hk st
   unfold spOf
   rw [space_nat hq,Int.toNat_natCast]
   cases s<;>exact this
theorem Step.rowNil4 {T:TypeId} {sz:Nat} (st:Step w0 F0 (VL K v++ls) w):Step w0 F0 (VL K v++(rowP T sz (.slice none 0 0) 0 []::ls)) w :=
 Step.back 4 (st.push (A:=rowP T sz (.slice none 0 0) 0 []) (F:=fun x=>(Value.slice none 0 0).ownBlock=some x) (Mod.refl _ _) ⟨⟨by simp,.inl ⟨rfl,rfl⟩⟩,rfl⟩ (fun x hx=>by cases hx))
theorem do_none (hcf:Instr.findNow (.int .i64) (.int .i64 o.kind) callsE.toList 0=some none)
 (hnf:Instr.findNow (.int .i64) (.int .i64 o.kind) opsE.toList 0=some none) (hk:K.sbs.length=v.procs.length)
 (st:Step w0 F0 (VL K v++ls) w) :
 Calls Tryz.prog 12 #[.pointer (some ⟨K.vb,0,none⟩),opV o] w fun e w'=>DoPost w0 F0 K ls (.bad 1,v) e w':=by
 obtain ⟨r,wb,hr,hwb,st1⟩:=mach_blocks o st
 have c0:=(opAtI 5 st1 rfl).c0
 have HU:Hid (Tryz.prog.underlying 57=some (.map 25 56)):=ζh (by kernel_rfl)
 have HU2:Hid (Tryz.prog.underlying 60=some (.map 25 59)):=ζh (by kernel_rfl)
 have HKK:Hid (Tryz.prog.underlying 25=some (.int .i64)):=ζh (by kernel_rfl)
 have HMA:Hid (Calls Tryz.prog 21 #[] wb.drew fun e w'=>∃ q,e=.returned (.map (some q))∧w'.heap[q]?=some (.map opsE 6)∧Mod (fun _=>False) wb.drew w') :=
  ζh ((vm_machines wb.drew).mono (fun e w' h=>⟨_,h⟩))
 have HCA:Hid (∀ w1,Calls Tryz.prog 22 #[] w1 fun e w'=>∃ q,e=.returned (.map (some q))∧w'.heap[q]?=some (.map callsE 8)∧Mod (fun _=>False) w1 w') :=
  ζh (fun w1=>(vm_calls w1).mono (fun e w' h=>⟨_,h⟩))
 have HR:=ζh hr
 unfold opC at hwb
 have HWB2:=ζh hwb
 have HNF:=ζh hnf
 have HKL:=ζh hk
 have ST:=ζh st1
 have HCF:=ζh hcf
 clear hcf
 clear st st1 hr hwb hnf hk
 unfold opV
 go_enter Tryz.func12,Tryz.ntmps12
 go_upto_region 1 with fail
 rw [←HWB2.out,←HR.out]
 go_region_held3 (fun w'=>w'.cell? ⟨r,0,none⟩=some (.int .i64 o.kind)) (first | exact c0 | exact q0) (first
  | (go_at_call 21;with_reducible refine HMA.out.mono ?_;rintro e w1 ⟨q,rfl,hmp,hm1⟩;have hlk:=map_get (t:=57) HU.out HKK.out hmp HNF.out zero56;simp only [Option.map_none,Option.getD_none] at hlk;have HMP:=ζh hmp;clear hmp;have q0:=(((Mod.refl (fun _=>False) wb).drew).trans hm1).keeps c0 (fun x=>x)))
 rename_i hHeld
 have ST2:=ζh (ST.out.still (((Mod.refl (fun _=>False) wb).drew).trans hm1))
 have q1:=(opAtI 5 (o:=o) ST2.out rfl).c1
 clear hHeld c0 hlk hm1 HMA HMP ST
 have hne:=neq56n
 go_wp2_with fail
 clear hne
 have hmb:=Mod.drew (Mod.refl (fun _=>False) w1)
 have HSP:Hid (∀ w',Mod (fun _=>False) w1 w'→Calls Tryz.prog 23 #[.pointer (some ⟨K.vb,0,none⟩),.int .i64 o.a] w' fun e w''=>e=.returned (spOf K v o.a)∧w'=w'') :=
  ζh (fun w' hm=>by
   have h:=vm_spaceAny o.a HKL.out (ST2.out.still hm)
   skip
   exact h)
 go_region_held3 (fun w'=>w'.cell? ⟨r,0,none⟩=some (.int .i64 o.kind)∧w'.cell? ⟨r,1,none⟩=some (.int .i64 o.a)) (first | exact ⟨q0,q1⟩ | exact ⟨s0,s1⟩) (first
  | (go_at_call 22;with_reducible refine (HCA.out _).mono ?_;rintro e w2 ⟨q2,rfl,hmp2,hm2⟩;have hlk2:=map_get (t:=60) HU2.out HKK.out hmp2 HCF.out zero59;simp only [Option.map_none,Option.getD_none,Option.map_some,Option.getD_some] at hlk2;have HMP2:=ζh hmp2;clear hmp2;have hmc:=hmb.trans hm2;have s0:=hmc.keeps q0 (fun x=>x);have s1:=hmc.keeps q1 (fun x=>x))
  | (go_at_call 23;with_reducible refine (HSP.out _ hmc).mono ?_;rintro e w3 ⟨rfl,rfl⟩)
  | (go_at_call 23;with_reducible refine (HSP.out _ hmb).mono ?_;rintro e w3 ⟨rfl,rfl⟩))
 all_goals
  rename_i hHeld
  have ST3:=ζh (ST2.out.still hmc)
  clear hHeld q0 q1 hlk2 hm2 hmb hmc s0 s1 HSP HCA ST2 HMP2
  have heq:=eql59n
  obtain ⟨hst,hbf,st4⟩:=ans_set 4 ST3.out rfl rfl 1 0 none 0 0
  have ST5:=ζh ((((Step.dropAt 4 st4 rfl).dropAt 4 rfl).rowNil4 (T:=3) (sz:=1)))
  have HST:=ζh hst
  have HBF:=ζh hbf
  clear hst hbf st4
  go_wp2_with (refine Byt.wpList_storeBy rfl 32 _ _ (by rfl) ⟨r+1,0,none⟩ _ (by rfl) (by rfl) HST.out ?_)
  refine bodyPost_ret (res_ans rfl rfl HBF.out) rfl ?_
  exact ⟨K.pv,.slice none 0 0,K.co.gv,K.co.uv,K.sbs,rfl,HKL.out,ST5.out⟩
theorem do_dead {fn i:Nat} (hcf:Instr.findNow (.int .i64) (.int .i64 o.kind) callsE.toList 0=some (some (i,fnV fn))) (hsp:v.space o.a=none)
 (hnf:Instr.findNow (.int .i64) (.int .i64 o.kind) opsE.toList 0=some none) (hk:K.sbs.length=v.procs.length)
 (st:Step w0 F0 (VL K v++ls) w) :
 Calls Tryz.prog 12 #[.pointer (some ⟨K.vb,0,none⟩),opV o] w fun e w'=>DoPost w0 F0 K ls (.bad 2,v) e w':=by
 obtain ⟨r,wb,hr,hwb,st1⟩:=mach_blocks o st
 have c0:=(opAtI 5 st1 rfl).c0
 have HU:Hid (Tryz.prog.underlying 57=some (.map 25 56)):=ζh (by kernel_rfl)
 have HU2:Hid (Tryz.prog.underlying 60=some (.map 25 59)):=ζh (by kernel_rfl)
 have HKK:Hid (Tryz.prog.underlying 25=some (.int .i64)):=ζh (by kernel_rfl)
 have HMA:Hid (Calls Tryz.prog 21 #[] wb.drew fun e w'=>∃ q,e=.returned (.map (some q))∧w'.heap[q]?=some (.map opsE 6)∧Mod (fun _=>False) wb.drew w') :=
  ζh ((vm_machines wb.drew).mono (fun e w' h=>⟨_,h⟩))
 have HCA:Hid (∀ w1,Calls Tryz.prog 22 #[] w1 fun e w'=>∃ q,e=.returned (.map (some q))∧w'.heap[q]?=some (.map callsE 8)∧Mod (fun _=>False) w1 w') :=
  ζh (fun w1=>(vm_calls w1).mono (fun e w' h=>⟨_,h⟩))
 have HR:=ζh hr
 unfold opC at hwb
 have HWB2:=ζh hwb
 have HNF:=ζh hnf
 have HKL:=ζh hk
 have ST:=ζh st1
 have HCF:=ζh hcf
 clear hcf
 have HS:=ζh hsp
 clear hsp
 clear st st1 hr hwb hnf hk
 unfold opV
 go_enter Tryz.func12,Tryz.ntmps12
 go_upto_region 1 with fail
 rw [←HWB2.out,←HR.out]
 go_region_held3 (fun w'=>w'.cell? ⟨r,0,none⟩=some (.int .i64 o.kind)) (first | exact c0 | exact q0) (first
  | (go_at_call 21;with_reducible refine HMA.out.mono ?_;rintro e w1 ⟨q,rfl,hmp,hm1⟩;have hlk:=map_get (t:=57) HU.out HKK.out hmp HNF.out zero56;simp only [Option.map_none,Option.getD_none] at hlk;have HMP:=ζh hmp;clear hmp;have q0:=(((Mod.refl (fun _=>False) wb).drew).trans hm1).keeps c0 (fun x=>x)))
 rename_i hHeld
 have ST2:=ζh (ST.out.still (((Mod.refl (fun _=>False) wb).drew).trans hm1))
 have q1:=(opAtI 5 (o:=o) ST2.out rfl).c1
 clear hHeld c0 hlk hm1 HMA HMP ST
 have hne:=neq56n
 go_wp2_with fail
 clear hne
 have hmb:=Mod.drew (Mod.refl (fun _=>False) w1)
 have HSP:Hid (∀ w',Mod (fun _=>False) w1 w'→Calls Tryz.prog 23 #[.pointer (some ⟨K.vb,0,none⟩),.int .i64 o.a] w' fun e w''=>e=.returned (.pointer none)∧w'=w'') :=
  ζh (fun w' hm=>by
   have h:=vm_spaceAny o.a HKL.out (ST2.out.still hm)
   unfold spOf at h;rw [HS.out] at h
   exact h)
 go_region_held3 (fun w'=>w'.cell? ⟨r,0,none⟩=some (.int .i64 o.kind)∧w'.cell? ⟨r,1,none⟩=some (.int .i64 o.a)) (first | exact ⟨q0,q1⟩ | exact ⟨s0,s1⟩) (first
  | (go_at_call 22;with_reducible refine (HCA.out _).mono ?_;rintro e w2 ⟨q2,rfl,hmp2,hm2⟩;have hlk2:=map_get (t:=60) HU2.out HKK.out hmp2 HCF.out zero59;simp only [Option.map_none,Option.getD_none,Option.map_some,Option.getD_some] at hlk2;have HMP2:=ζh hmp2;clear hmp2;have hmc:=hmb.trans hm2;have s0:=hmc.keeps q0 (fun x=>x);have s1:=hmc.keeps q1 (fun x=>x))
  | (go_at_call 23;with_reducible refine (HSP.out _ hmc).mono ?_;rintro e w3 ⟨rfl,rfl⟩)
  | (go_at_call 23;with_reducible refine (HSP.out _ hmb).mono ?_;rintro e w3 ⟨rfl,rfl⟩))
 all_goals
  rename_i hHeld
  have ST3:=ζh (ST2.out.still hmc)
  clear hHeld q0 q1 hlk2 hm2 hmb hmc s0 s1 HSP HCA ST2 HMP2
  have heq:=eql59 fn
  obtain ⟨hst,hbf,st4⟩:=ans_set 4 ST3.out rfl rfl 2 0 none 0 0
  have ST5:=ζh ((((Step.dropAt 4 st4 rfl).dropAt 4 rfl).rowNil4 (T:=3) (sz:=1)))
  have HST:=ζh hst
  have HBF:=ζh hbf
  clear hst hbf st4
  go_wp2_with (refine Byt.wpList_storeBy rfl 32 _ _ (by rfl) ⟨r+1,0,none⟩ _ (by rfl) (by rfl) HST.out ?_)
  refine bodyPost_ret (res_ans rfl rfl HBF.out) rfl ?_
  exact ⟨K.pv,.slice none 0 0,K.co.gv,K.co.uv,K.sbs,rfl,HKL.out,ST5.out⟩
theorem do_call {fn i:Nat} {s:SpM} {R:Ans × VmM} (hcf:Instr.findNow (.int .i64) (.int .i64 o.kind) callsE.toList 0=some (some (i,fnV fn))) (hsp:v.space o.a=some s) (hb:K.sbs.getD o.a.toNat 0=b)
 (hent:∀ (args:Array Value) (w':World),(callFunc fn args).run Tryz.prog w'=.ok (.enter fn args) w')
 (hc:∀ (cb:Nat) (l:List Part) (w':World),Step w0 F0 (VL K v++CL cb K.vb b o Ans.zero (.slice none 0 0)++l) w'→Calls Tryz.prog fn #[.pointer (some ⟨cb,0,none⟩)] w' fun e w''=>∃ (pv kv:Value) (gv uv:Value) (bs:List Nat),e=.returned (.tuple #[])∧bs.length=R.2.procs.length∧Step w0 F0 (VL ⟨K.vb,{ K.co with gv:=gv,uv:=uv },pv,bs⟩ R.2++CL cb K.vb b o R.1 kv++l) w'')
 (hnf:Instr.findNow (.int .i64) (.int .i64 o.kind) opsE.toList 0=some none) (hk:K.sbs.length=v.procs.length)
 (st:Step w0 F0 (VL K v++ls) w) :
 Calls Tryz.prog 12 #[.pointer (some ⟨K.vb,0,none⟩),opV o] w fun e w'=>DoPost w0 F0 K ls R e w':=by
 obtain ⟨r,wb,hr,hwb,st1⟩:=mach_blocks o st
 have c0:=(opAtI 5 st1 rfl).c0
 have HU:Hid (Tryz.prog.underlying 57=some (.map 25 56)):=ζh (by kernel_rfl)
 have HU2:Hid (Tryz.prog.underlying 60=some (.map 25 59)):=ζh (by kernel_rfl)
 have HKK:Hid (Tryz.prog.underlying 25=some (.int .i64)):=ζh (by kernel_rfl)
 have HMA:Hid (Calls Tryz.prog 21 #[] wb.drew fun e w'=>∃ q,e=.returned (.map (some q))∧w'.heap[q]?=some (.map opsE 6)∧Mod (fun _=>False) wb.drew w') :=
  ζh ((vm_machines wb.drew).mono (fun e w' h=>⟨_,h⟩))
 have HCA:Hid (∀ w1,Calls Tryz.prog 22 #[] w1 fun e w'=>∃ q,e=.returned (.map (some q))∧w'.heap[q]?=some (.map callsE 8)∧Mod (fun _=>False) w1 w') :=
  ζh (fun w1=>(vm_calls w1).mono (fun e w' h=>⟨_,h⟩))
 have HR:=ζh hr
 unfold opC at hwb
 have HWB2:=ζh hwb
 have HNF:=ζh hnf
 have HKL:=ζh hk
 have ST:=ζh st1
 have HCF:=ζh hcf
 clear hcf
 have HS:=ζh hsp
 have HB:=ζh hb
 have HC:=ζh hc
 clear hsp hb hc
 clear st st1 hr hwb hnf hk
 unfold opV
 go_enter Tryz.func12,Tryz.ntmps12
 go_upto_region 1 with fail
 rw [←HWB2.out,←HR.out]
 go_region_held3 (fun w'=>w'.cell? ⟨r,0,none⟩=some (.int .i64 o.kind)) (first | exact c0 | exact q0) (first
  | (go_at_call 21;with_reducible refine HMA.out.mono ?_;rintro e w1 ⟨q,rfl,hmp,hm1⟩;have hlk:=map_get (t:=57) HU.out HKK.out hmp HNF.out zero56;simp only [Option.map_none,Option.getD_none] at hlk;have HMP:=ζh hmp;clear hmp;have q0:=(((Mod.refl (fun _=>False) wb).drew).trans hm1).keeps c0 (fun x=>x)))
 rename_i hHeld
 have ST2:=ζh (ST.out.still (((Mod.refl (fun _=>False) wb).drew).trans hm1))
 have q1:=(opAtI 5 (o:=o) ST2.out rfl).c1
 clear hHeld c0 hlk hm1 HMA HMP ST
 have hne:=neq56n
 go_wp2_with fail
 clear hne
 have hmb:=Mod.drew (Mod.refl (fun _=>False) w1)
 have HSP:Hid (∀ w',Mod (fun _=>False) w1 w'→Calls Tryz.prog 23 #[.pointer (some ⟨K.vb,0,none⟩),.int .i64 o.a] w' fun e w''=>e=.returned (.pointer (some ⟨b,0,none⟩))∧w'=w'') :=
  ζh (fun w' hm=>by
   have h:=vm_spaceAny o.a HKL.out (ST2.out.still hm)
   unfold spOf at h;rw [HS.out,HB.out] at h
   exact h)
 go_region_held3 (fun w'=>w'.cell? ⟨r,0,none⟩=some (.int .i64 o.kind)∧w'.cell? ⟨r,1,none⟩=some (.int .i64 o.a)) (first | exact ⟨q0,q1⟩ | exact ⟨s0,s1⟩) (first
  | (go_at_call 22;with_reducible refine (HCA.out _).mono ?_;rintro e w2 ⟨q2,rfl,hmp2,hm2⟩;have hlk2:=map_get (t:=60) HU2.out HKK.out hmp2 HCF.out zero59;simp only [Option.map_none,Option.getD_none,Option.map_some,Option.getD_some] at hlk2;have HMP2:=ζh hmp2;clear hmp2;have hmc:=hmb.trans hm2;have s0:=hmc.keeps q0 (fun x=>x);have s1:=hmc.keeps q1 (fun x=>x))
  | (go_at_call 23;with_reducible refine (HSP.out _ hmc).mono ?_;rintro e w3 ⟨rfl,rfl⟩)
  | (go_at_call 23;with_reducible refine (HSP.out _ hmb).mono ?_;rintro e w3 ⟨rfl,rfl⟩))
 all_goals
  rename_i hHeld
  have ST3:=ζh (ST2.out.still hmc)
  clear hHeld q0 q1 hlk2 hm2 hmb hmc s0 s1 HSP HCA ST2 HMP2
  have heq:=eql59 fn
  obtain ⟨d0,d1,d2,d3,d4⟩:=opAtI 5 (o:=o) ST3.out rfl
  go_upto_region 10 with fail
  obtain ⟨cb,hcb⟩:∃ cb,cb=w2.heap.size:=⟨_,rfl⟩
  obtain ⟨w4,hw4⟩:∃ w4,w4=w2.alloc (.cells #[.int .i64 o.kind,.int .i64 o.a,.int .i64 o.b,.int .i64 o.c,.int .i64 o.d,.pointer (some ⟨K.vb,0,none⟩),.pointer (some ⟨b,0,none⟩),.int .i64 0,.int .i64 0,.slice none 0 0] 66):=⟨_,rfl⟩
  have st4:Step w0 F0 (VL K v++CL cb K.vb b o Ans.zero (.slice none 0 0)++(blkP (r+1) ansZ 32::blkP r (opC o) 27::ls)) w4:=by
   rw [hcb,hw4]
   exact Step.localAt 4 (ST3.out.rowNil4 (T:=3) (sz:=1))
  rw [←hcb,←hw4]
  have HCALL:=ζh (HC.out cb _ w4 st4)
  clear heq d0 d1 d2 d3 d4 hcb hw4 st4 ST3 HC
  go_wp2_with fail
  with_reducible refine HCALL.out.mono ?_
  rintro e w5 ⟨pv,kv,gv,uv,bs,rfl,hbs,st5⟩
  obtain ⟨⟨ae,an,ak⟩,av⟩:=R
  dsimp only at hbs st5
  obtain ⟨ka,kc,hkv⟩:=ownsRow_form (rowAtI 5 st5 rfl)
  obtain ⟨kn,hkn⟩:∃ kn,kn=ak.length:=⟨_,rfl⟩
  rw [←hkn] at hkv
  subst hkv
  have hc5:=clAtI 4 st5 rfl
  have y7:=hc5.c7
  have y8:=hc5.c8
  have y9:=hc5.c9
  dsimp only at y7 y8
  obtain ⟨hst,hbf,st6⟩:=ans_set 6 st5 rfl rfl ae an ka kn kc
  have ST7:=ζh (((Step.dropAt 6 st6 rfl).dropAt 6 rfl).dropAt 4 rfl)
  have HST:=ζh hst
  have HBF:=ζh hbf
  have HBS:=ζh hbs
  clear hst hbf st6 hbs st5 HCALL hkn hc5
  go_wp2_with (refine Byt.wpList_storeBy rfl 32 _ _ (by rfl) ⟨r+1,0,none⟩ _ (by rfl) (by rfl) HST.out ?_)
  refine bodyPost_ret (res_ans rfl rfl HBF.out) rfl ?_
  exact ⟨pv,.slice ka kn kc,gv,uv,bs,rfl,HBS.out,ST7.out⟩
end

section
open Go.RowKit Go.Shelf Go.ChangeShapes Go.WideShapes
open Ent (Ent)
variable {w0 w:World} {F0:Nat→Prop} {A B C P:Part} {ls ps L:List Part} {K:VK} {v:VmM} {N M:Nat} {c:CoM} {CKK:CK} {cb b:Nat} {o:Opn} {a:Ans} {kv:Value}
structure VSm (N:Nat) (v:VmM):Prop where
 few:v.procs.length≤64
 core:CSmall N v.core
 regs:∀ p∈v.procs,∀ s,p.2=some s→s.regs.length≤N
theorem VOk.sm (h:VOk N K v):VSm N v:=⟨h.few,h.core,h.regs⟩
theorem VSm.ok (h:VSm N v) (hl:K.sbs.length=v.procs.length):VOk N K v:=⟨hl,h.few,h.core,h.regs⟩
theorem VSm.key (h:VSm N v) (K:VK):VOk N { K with sbs:=List.replicate v.procs.length 0 } v:=h.ok (by simp)
theorem VSm.up (h:VSm N v) (hm:N≤M):VSm M v:=⟨h.few,h.core.up hm,fun p hp s hs=>Nat.le_trans (h.regs p hp s hs) hm⟩
theorem VSm.withCore {c:CoM} (h:VSm N v) (hm:N≤M) (hc:CSmall M c):VSm M { v with core:=c }:=⟨h.few,hc,fun p hp s hs=>Nat.le_trans (h.regs p hp s hs) hm⟩
theorem setSp_sm {s:Option SpM} (x:Int) (h:VSm N v) (hm:N≤M) (hs:∀ s',s=some s'→s'.regs.length≤M):VSm M (v.setSp x s):=by
 refine ⟨by unfold VmM.setSp;simpa using h.few,h.core.up hm,fun p hp s' hs'=>?_⟩
 unfold VmM.setSp at hp
 simp only at hp
 rcases List.mem_or_eq_of_mem_set hp with hp | rfl
 · exact Nat.le_trans (h.regs p hp s' hs') hm
 · exact hs s' hs'
theorem space_sm {x:Int} {s:SpM} (h:VSm N v) (hs:v.space x=some s):s.regs.length≤N:=by
 unfold VmM.space at hs
 split at hs
 · cases hq:v.procs[x.toNat]? with
   | none=>rw [hq] at hs;cases hs
   | some q=>rw [hq] at hs;exact h.regs q (ζm hq) s hs
 · cases hs
theorem set_regs (s:SpM) (p:Int) (e:Ent):(s.set p e).regs=s.regs:=by unfold SpM.set;split<;>rfl
theorem touch_regs (s:SpM) (p:Int):(s.touch p).regs=s.regs:=by unfold SpM.touch;split<;>rfl
theorem enter_sm (h:VSm N v) (x p id:Int) (k:Nat) (wr:Bool):VSm N (v.enter x p id k wr):=by
 unfold VmM.enter
 split
 · rename_i s hs
   refine setSp_sm x (h.withCore (Nat.le_refl _) (csmall_refer h.core id 1)) (Nat.le_refl _) (fun s' e=>?_)
   injection e with e
   subst e
   rw [set_regs]
   exact space_sm h hs
 · exact h.withCore (Nat.le_refl _) (csmall_refer h.core id 1)
theorem touch_sm (h:VSm N v) (x p:Int):VSm N (v.touch x p):=by
 unfold VmM.touch
 split
 · rename_i s hs
   refine setSp_sm x h (Nat.le_refl _) (fun s' e=>?_)
   injection e with e
   subst e
   rw [touch_regs]
   exact space_sm h hs
 · exact h
theorem try_sm (h:VSm N v) (hN:N≤80000) (K:VK) (p:Int) (x:VmM.What):VSm (N+200) (v.try_ p a x).2.2∧(v.try_ p a x).2.2.procs.length=v.procs.length:=by
 have:=try_ok (a:=a) (h.key K) (by omega) p x
 exact ⟨this.ok.sm,this.len⟩
theorem enter_len (x p id:Int) (k:Nat) (wr:Bool):(v.enter x p id k wr).procs.length=v.procs.length:=by
 unfold VmM.enter
 split
 · unfold VmM.setSp;simp
 · rfl
theorem touch_len (x p:Int):(v.touch x p).procs.length=v.procs.length:=by
 unfold VmM.touch
 split
 · unfold VmM.setSp;simp
 · rfl
theorem there_sm (h:VSm N v) (hN:N≤80000) (K:VK) (i p:Int) (x:Rg):VSm (N+200) (v.there i a p x).2.2∧(v.there i a p x).2.2.procs.length=v.procs.length:=by
 unfold VmM.there
 split
 · exact try_sm h hN K i _
 · have:=try_sm (a:=a) h hN K i (.open (keyR x p).1 (keyR x p).2)
   simp only
   split
   · exact ⟨enter_sm this.1 _ _ _ _ _,(enter_len _ _ _ _ _).trans this.2⟩
   · exact this
theorem own_sm (h:VSm N v) (hN:N≤80000) (K:VK) (i p:Int):VSm (N+200) (v.ownP i a p).2.2∧(v.ownP i a p).2.2.procs.length=v.procs.length:=by
 unfold VmM.ownP
 split
 · rename_i e _
   split
   · exact try_sm h hN K i _
   · have:=try_sm (a:=a) h hN K i (.copy e.page)
     simp only
     split
     · have h2:=enter_sm this.1 i p (v.try_ i a (.copy e.page)).1.1 1 true
       exact ⟨h2.withCore (Nat.le_refl _) (csmall_refer h2.core _ _),(enter_len _ _ _ _ _).trans this.2⟩
     · exact this
 · have:=try_sm (a:=a) h hN K i .fresh
   simp only
   split
   · exact ⟨enter_sm this.1 _ _ _ _ _,(enter_len _ _ _ _ _).trans this.2⟩
   · exact this
theorem load_sm (h:VSm N v) (hN:N≤80000) (K:VK) (i:Int) (s:SpM) (x:Int):VSm (N+200) (v.load i s x).2∧(v.load i s x).2.procs.length=v.procs.length:=by
 unfold VmM.load
 split
 · exact ⟨h.up (by omega),rfl⟩
 · rename_i y _
   split
   · exact ⟨h.up (by omega),rfl⟩
   · split
     · exact ⟨h.up (by omega),rfl⟩
     · have:=there_sm (a:=.zero) h hN K i (x / 16) y
       simp only
       split
       · refine ⟨touch_sm (this.1.withCore (Nat.le_refl _) (csmall_get this.1.core _ _)) _ _,(touch_len _ _).trans this.2⟩
       · exact this
theorem store_sm (h:VSm N v) (hN:N≤80000) (K:VK) (i:Int) (s:SpM) (x y:Int):VSm (N+200) (v.store i s x y).2∧(v.store i s x y).2.procs.length=v.procs.length:=by
 unfold VmM.store
 split
 · exact ⟨h.up (by omega),rfl⟩
 · split
   · exact ⟨h.up (by omega),rfl⟩
   · rename_i z _
     split
     · exact ⟨h.up (by omega),rfl⟩
     · split
       · exact ⟨h.up (by omega),rfl⟩
       · by_cases hk:z.k=2
         · have:=there_sm (a:=.zero) h hN K i (x / 16) z
           simp only [if_pos hk]
           split
           · exact ⟨touch_sm (this.1.withCore (Nat.le_refl _) (csmall_put this.1.core _ _ _)) _ _,(touch_len _ _).trans this.2⟩
           · exact this
         · have:=own_sm (a:=.zero) h hN K i (x / 16)
           simp only [if_neg hk]
           split
           · exact ⟨touch_sm (this.1.withCore (Nat.le_refl _) (csmall_put this.1.core _ _ _)) _ _,(touch_len _ _).trans this.2⟩
           · exact this
theorem addR_len (l:List Rg) (x:Rg) (h:(addR l x).1=0):(addR l x).2.length≤64:=by
 unfold addR at h ⊢
 split at h
 · cases h
 · rename_i h1
   rw [if_neg h1]
   split at h
   · cases h
   · rename_i h2
     rw [if_neg h2]
     simp only [List.length_append,List.length_cons,List.length_take,List.length_drop]
     have:¬ 64≤l.length:=fun h=>h1 (.inr (.inr h))
     omega
theorem mapX_sm (h:VSm N v) (i:Int) {s:SpM} (hs:s.regs.length≤N) (x:Rg):VSm (N+64) (v.mapX i s x).2∧(v.mapX i s x).2.procs.length=v.procs.length:=by
 unfold VmM.mapX
 refine ⟨setSp_sm i h (by omega) (fun s' e=>?_),by unfold VmM.setSp;simp⟩
 injection e with e
 subst e
 unfold SpM.map
 simp only
 split
 · rename_i h0
   have:=addR_len s.regs x h0
   show (addR s.regs x).2.length≤_
   omega
 · omega
theorem share_sm (ids:List Int):∀ {c:CoM},CSmall N c→CSmall N (shareC c ids):=by
 induction ids with
 | nil=>intro c h;exact h
 | cons x l ih=>intro c h;exact ih (csmall_refer h x 1)
theorem add_sm (h:VSm N v) (hf:¬ 64≤v.procs.length) (g:Int) {s:SpM} (hs:s.regs.length≤N):VSm N (v.add g s).2:=by
 unfold VmM.add
 refine ⟨by simp;omega,h.core,fun p hp s' hs'=>?_⟩
 simp only at hp
 rcases List.mem_append.1 hp with hp | hp
 · exact h.regs p hp s' hs'
 · rw [List.mem_singleton] at hp
   subst hp
   injection hs' with hs'
   subst hs'
   exact hs
end

section
open Go.RowKit Go.Shelf Go.ChangeShapes Go.WideShapes
open Ent (Ent)
variable {w0 w:World} {F0:Nat→Prop} {A B C P:Part} {ls ps L:List Part} {K:VK} {v:VmM} {N M:Nat} {c:CoM} {CKK:CK} {cb b:Nat} {o:Opn} {a:Ans} {kv:Value}
def VmM.doOp (v:VmM) (o:Opn):Ans × VmM :=
 if o.kind=0 then (⟨(v.core.addGroup o.a).1.2,max (v.core.addGroup o.a).1.1 0,[]⟩,{ v with core:=(v.core.addGroup o.a).2 })
 else if o.kind=2 then (.bad (v.core.limit o.a o.b o.c).1,{ v with core:=(v.core.limit o.a o.b o.c).2 })
 else if o.kind=3 then spawnM v o.a
 else if 4≤o.kind∧o.kind≤11 then (match v.space o.a with | some s=>v.call o s | none=>(.bad 2,v))
 else (.bad 1,v)
theorem space_some {x:Int} {s:SpM} (h:v.space x=some s):∃ (i:Nat) (g:Int),x=i∧v.procs[i]?=some (g,some s):=by
 unfold VmM.space at h
 split at h
 · rename_i h0
   cases hq:v.procs[x.toNat]? with
   | none=>rw [hq] at h;cases h
   | some q =>
     rw [hq] at h
     obtain ⟨g,o⟩:=q
     have h':o=some s:=h
     subst h'
     exact ⟨x.toNat,g,by omega,hq⟩
 · cases h
theorem find_ops (h0:o.kind≠0) (h1:o.kind≠1) (h2:o.kind≠2) (h3:o.kind≠3) (h12:o.kind≠12) (h13:o.kind≠13):Instr.findNow (.int .i64) (.int .i64 o.kind) opsE.toList 0=some none:=by
 have b0:(o.kind==0)=false:=beq_eq_false_iff_ne.2 h0
 have b1:(o.kind==1)=false:=beq_eq_false_iff_ne.2 h1
 have b2:(o.kind==2)=false:=beq_eq_false_iff_ne.2 h2
 have b3:(o.kind==3)=false:=beq_eq_false_iff_ne.2 h3
 have b12:(o.kind==12)=false:=beq_eq_false_iff_ne.2 h12
 have b13:(o.kind==13)=false:=beq_eq_false_iff_ne.2 h13
 simp [Instr.findNow,Instr.sameNow,opsE,b0,b1,b2,b3,b12,b13]
theorem find_calls (h:¬ (4≤o.kind∧o.kind≤11)):Instr.findNow (.int .i64) (.int .i64 o.kind) callsE.toList 0=some none:=by
 have h4:o.kind≠4:=by omega
 have h5:o.kind≠5:=by omega
 have h6:o.kind≠6:=by omega
 have h7:o.kind≠7:=by omega
 have h8:o.kind≠8:=by omega
 have h9:o.kind≠9:=by omega
 have h10:o.kind≠10:=by omega
 have h11:o.kind≠11:=by omega
 have b4:(o.kind==4)=false:=beq_eq_false_iff_ne.2 h4
 have b5:(o.kind==5)=false:=beq_eq_false_iff_ne.2 h5
 have b6:(o.kind==6)=false:=beq_eq_false_iff_ne.2 h6
 have b7:(o.kind==7)=false:=beq_eq_false_iff_ne.2 h7
 have b8:(o.kind==8)=false:=beq_eq_false_iff_ne.2 h8
 have b9:(o.kind==9)=false:=beq_eq_false_iff_ne.2 h9
 have b10:(o.kind==10)=false:=beq_eq_false_iff_ne.2 h10
 have b11:(o.kind==11)=false:=beq_eq_false_iff_ne.2 h11
 simp [Instr.findNow,Instr.sameNow,callsE,b4,b5,b6,b7,b8,b9,b10,b11]
theorem doOp_call (h:4≤o.kind∧o.kind≤11) {s:SpM} (hs:v.space o.a=some s):v.doOp o=v.call o s:=by
 unfold VmM.doOp
 rw [if_neg (by omega),if_neg (by omega),if_neg (by omega),if_pos h,hs]
theorem do_load {s:SpM} (hk:o.kind=8) (hs:v.space o.a=some s) (hV:VOk N K v) (hN:N≤80000) (st:Step w0 F0 (VL K v++ls) w) :
 Calls Tryz.prog 12 #[.pointer (some ⟨K.vb,0,none⟩),opV o] w fun e w'=>DoPost w0 F0 K ls (v.doOp o) e w':=by
 have hnf:Instr.findNow (.int .i64) (.int .i64 o.kind) opsE.toList 0=some none:=find_ops (by omega) (by omega) (by omega) (by omega) (by omega) (by omega)
 obtain ⟨i,g,ho,hp⟩:=space_some hs
 have hi:=(ζi.1 hp).1
 have hb:K.sbs[i]?=some (K.sbs.getD i 0):=by rw [List.getD_eq_getElem?_getD,ζg (by have:=hV.len;omega)];rfl
 have hbd:K.sbs.getD o.a.toNat 0=K.sbs.getD i 0:=by rw [ho,Int.toNat_natCast]
 rw [doOp_call (by omega) hs]
 have hc:v.call o s=v.load o.a s o.b:=by unfold VmM.call;simp [hk]
 rw [hc]
 refine do_call (fn:=42) (i:=5) (by rw [hk];rfl) hs hbd (enters_of Tryz.func42 (by kernel_rfl) rfl) (fun cb l w' st'=>(vm_load hp hb ho hV hN st').mono ?_) hnf hV.len st
 rintro e w'' ⟨kv,rfl,st2⟩
 exact ⟨K.pv,kv,K.co.gv,K.co.uv,K.sbs,rfl,by rw [(load_sm hV.sm hN K o.a s o.b).2,hV.len],st2⟩
theorem do_store {s:SpM} (hk:o.kind=9) (hs:v.space o.a=some s) (hV:VOk N K v) (hN:N≤80000) (st:Step w0 F0 (VL K v++ls) w) :
 Calls Tryz.prog 12 #[.pointer (some ⟨K.vb,0,none⟩),opV o] w fun e w'=>DoPost w0 F0 K ls (v.doOp o) e w':=by
 have hnf:Instr.findNow (.int .i64) (.int .i64 o.kind) opsE.toList 0=some none:=find_ops (by omega) (by omega) (by omega) (by omega) (by omega) (by omega)
 obtain ⟨i,g,ho,hp⟩:=space_some hs
 have hi:=(ζi.1 hp).1
 have hb:K.sbs[i]?=some (K.sbs.getD i 0):=by rw [List.getD_eq_getElem?_getD,ζg (by have:=hV.len;omega)];rfl
 have hbd:K.sbs.getD o.a.toNat 0=K.sbs.getD i 0:=by rw [ho,Int.toNat_natCast]
 rw [doOp_call (by omega) hs]
 have hc:v.call o s=v.store o.a s o.b o.c:=by unfold VmM.call;simp [hk]
 rw [hc]
 refine do_call (fn:=43) (i:=6) (by rw [hk];rfl) hs hbd (enters_of Tryz.func43 (by kernel_rfl) rfl) (fun cb l w' st'=>(vm_store hp hb ho hV hN st').mono ?_) hnf hV.len st
 rintro e w'' ⟨kv,rfl,st2⟩
 exact ⟨K.pv,kv,K.co.gv,K.co.uv,K.sbs,rfl,by rw [(store_sm hV.sm hN K o.a s o.b o.c).2,hV.len],st2⟩
theorem do_map {s:SpM} (hk:o.kind=5) (hs:v.space o.a=some s) (hV:VOk N K v) (hN:N≤80000) (st:Step w0 F0 (VL K v++ls) w) :
 Calls Tryz.prog 12 #[.pointer (some ⟨K.vb,0,none⟩),opV o] w fun e w'=>DoPost w0 F0 K ls (v.doOp o) e w':=by
 have hnf:Instr.findNow (.int .i64) (.int .i64 o.kind) opsE.toList 0=some none:=find_ops (by omega) (by omega) (by omega) (by omega) (by omega) (by omega)
 obtain ⟨i,g,ho,hp⟩:=space_some hs
 have hi:=(ζi.1 hp).1
 have hb:K.sbs[i]?=some (K.sbs.getD i 0):=by rw [List.getD_eq_getElem?_getD,ζg (by have:=hV.len;omega)];rfl
 have hbd:K.sbs.getD o.a.toNat 0=K.sbs.getD i 0:=by rw [ho,Int.toNat_natCast]
 rw [doOp_call (by omega) hs]
 have hc:v.call o s=(if VmM.pagesB o.b o.c=true then v.mapX o.a s ⟨o.c,o.c+o.b,1,0,0,true⟩ else (.bad 1,v)):=by unfold VmM.call;simp [hk]
 rw [hc]
 refine do_call (fn:=39) (i:=2) (by rw [hk];rfl) hs hbd (enters_of Tryz.func39 (by kernel_rfl) rfl) (fun cb l w' st'=>(vm_mapOwn hp hb ho st').mono ?_) hnf hV.len st
 rintro e w'' ⟨rfl,st2⟩
 have hlen:K.sbs.length=(if VmM.pagesB o.b o.c=true then v.mapX o.a s ⟨o.c,o.c+o.b,1,0,0,true⟩ else (.bad 1,v)).2.procs.length:=by
  split
  · rw [(mapX_sm hV.sm o.a (space_sm hV.sm hs) _).2,hV.len]
  · exact hV.len
 exact ⟨K.pv,.slice none 0 0,K.co.gv,K.co.uv,K.sbs,rfl,hlen,st2⟩
end

section
open Go.RowKit Go.Shelf Go.ChangeShapes Go.WideShapes
open Ent (Ent)
variable {w0 w:World} {F0:Nat→Prop} {A B C P:Part} {ls ps L:List Part} {K:VK} {v:VmM} {N M:Nat} {c:CoM} {CKK:CK} {cb b:Nat} {o:Opn} {a:Ans} {kv:Value}
abbrev KO (k:Int):Prop:=k≠13∧k≠4∧k≠6∧k≠7∧k≠10∧k≠11
theorem vm_do (h1:o.kind≠1) (h12:o.kind≠12) (hko:KO o.kind) (hV:VOk N K v) (hN:N≤80000) (st:Step w0 F0 (VL K v++ls) w) :
 Calls Tryz.prog 12 #[.pointer (some ⟨K.vb,0,none⟩),opV o] w fun e w'=>DoPost w0 F0 K ls (v.doOp o) e w':=by
 by_cases h0:o.kind=0
 · have hd:v.doOp o=(⟨(v.core.addGroup o.a).1.2,max (v.core.addGroup o.a).1.1 0,[]⟩,{ v with core:=(v.core.addGroup o.a).2 }):=by unfold VmM.doOp;rw [if_pos h0]
   rw [hd]
   refine do_mach (fn:=31) (i:=0) (by rw [h0];rfl) (enters_of Tryz.func31 (by kernel_rfl) rfl) (fun l w' st'=>(vm_group st').mono ?_) st
   rintro e w'' ⟨gv,uv,rfl,st2⟩
   exact ⟨K.pv,.slice none 0 0,gv,uv,K.sbs,rfl,hV.len,st2.rowNil4⟩
 by_cases h2:o.kind=2
 · have hd:v.doOp o=(.bad (v.core.limit o.a o.b o.c).1,{ v with core:=(v.core.limit o.a o.b o.c).2 }):=by unfold VmM.doOp;rw [if_neg h0,if_pos h2]
   rw [hd]
   refine do_mach (fn:=33) (i:=2) (by rw [h2];rfl) (enters_of Tryz.func33 (by kernel_rfl) rfl) (fun l w' st'=>(vm_limit st').mono ?_) st
   rintro e w'' ⟨rfl,st2⟩
   exact ⟨K.pv,.slice none 0 0,K.co.gv,K.co.uv,K.sbs,rfl,hV.len,st2.rowNil4⟩
 by_cases h3:o.kind=3
 · have hd:v.doOp o=spawnM v o.a:=by unfold VmM.doOp;rw [if_neg h0,if_neg h2,if_pos h3]
   have hk:(spawnM v o.a).1.killed=[]:=by
    unfold spawnM
    split
    · rfl
    · split<;>rfl
   rw [hd]
   refine do_mach (fn:=34) (i:=3) (by rw [h3];rfl) (enters_of Tryz.func34 (by kernel_rfl) rfl) (fun l w' st'=>(vm_spawn hV st').mono ?_) st
   rintro e w'' ⟨pv,bs,rfl,hbs,st2⟩
   refine ⟨pv,.slice none 0 0,K.co.gv,K.co.uv,bs,rfl,hbs,?_⟩
   rw [hk]
   exact st2.rowNil4
 have hnf:=find_ops h0 h1 h2 h3 h12 hko.1
 by_cases hr:4≤o.kind∧o.kind≤11
 · cases hs:v.space o.a with
   | none =>
     have hd:v.doOp o=(.bad 2,v):=by unfold VmM.doOp;rw [if_neg h0,if_neg h2,if_neg h3,if_pos hr,hs]
     rw [hd]
     have hcf:∃ (fn i:Nat),Instr.findNow (.int .i64) (.int .i64 o.kind) callsE.toList 0=some (some (i,fnV fn)):=by
      obtain ⟨h4,h11⟩:=hr
      have:o.kind=4∨o.kind=5∨o.kind=6∨o.kind=7∨o.kind=8∨o.kind=9∨o.kind=10∨o.kind=11:=by omega
      rcases this with h | h | h | h | h | h | h | h<;>rw [h]<;>exact ⟨_,_,rfl⟩
     obtain ⟨fn,i,hcf⟩:=hcf
     exact do_dead hcf hs hnf hV.len st
   | some s =>
     have:o.kind=4∨o.kind=5∨o.kind=6∨o.kind=7∨o.kind=8∨o.kind=9∨o.kind=10∨o.kind=11:=by omega
     rcases this with h | h | h | h | h | h | h | h
     · exact absurd h (by have:=hko.2;omega)
     · exact do_map h hs hV hN st
     · exact absurd h (by have:=hko.2;omega)
     · exact absurd h (by have:=hko.2;omega)
     · exact do_load h hs hV hN st
     · exact do_store h hs hV hN st
     · exact absurd h (by have:=hko.2;omega)
     · exact absurd h (by have:=hko.2;omega)
 · have hd:v.doOp o=(.bad 1,v):=by unfold VmM.doOp;rw [if_neg h0,if_neg h2,if_neg h3,if_neg hr]
   rw [hd]
   exact do_none (find_calls hr) hnf hV.len st
theorem spawn_sm (h:VSm N v) (g:Int):VSm N (spawnM v g).2:=by
 unfold spawnM
 split
 · exact h
 · split
   · exact h
   · rename_i h1
     exact add_sm h h1 g (by simp [SpM.new])
theorem exit_sm (h:VSm N v) (x:Int):VSm N (v.exit x):=by
 unfold VmM.exit
 split
 · exact setSp_sm x (h.withCore (Nat.le_refl _) (small_letGo _ h.core)) (Nat.le_refl _) (fun s' e=>by cases e)
 · exact h
theorem doOp_sm (h:VSm N v) (hN:N≤80000) (h7:o.kind≠7) (K:VK):VSm (N+200) (v.doOp o).2:=by
 unfold VmM.doOp
 split
 · exact h.withCore (by omega) ((csmall_group h.core o.a).up (by omega))
 split
 · exact h.withCore (by omega) ((csmall_limit h.core _ _ _).up (by omega))
 split
 · exact (spawn_sm h o.a).up (by omega)
 split
 · cases hs:v.space o.a with
   | none=>exact h.up (by omega)
   | some s =>
     have hr:=space_sm h hs
     show VSm (N+200) (v.call o s).2
     unfold VmM.call
     split
     · split
       · refine ⟨by simpa using h.few,h.core.up (by omega),fun p hp s' hs'=>?_⟩
         rcases List.mem_or_eq_of_mem_set hp with hp | rfl
         · exact Nat.le_trans (h.regs p hp s' hs') (by omega)
         · injection hs' with hs'
           subst hs'
           omega
       · exact h.up (by omega)
     split
     · split
       · exact (mapX_sm h o.a hr _).1.up (by omega)
       · exact h.up (by omega)
     split
     · split
       · split
         · exact h.up (by omega)
         · exact (mapX_sm h o.a hr _).1.up (by omega)
       · exact h.up (by omega)
     split
     · exact (load_sm h hN K o.a s o.b).1
     split
     · exact (store_sm h hN K o.a s o.b o.c).1
     split
     · unfold VmM.fork
       split
       · exact h.up (by omega)
       · rename_i h64
         have hc:VSm N { v with core:=shareC v.core (s.ids 0 65536) }:=h.withCore (Nat.le_refl _) (share_sm _ h.core)
         exact (add_sm hc h64 _ hr).up (by omega)
     · exact (exit_sm h o.a).up (by omega)
 · exact h.up (by omega)
end

section
open Go.RowKit Go.Shelf Go.ChangeShapes Go.WideShapes
attribute [local go_sem] Oper.semAt_some
variable {w0 w:World} {F0:Nat→Prop} {A B C P:Part} {ls ps L:List Part}
theorem Step.sepNil (st:Step w0 F0 ls w):Step w0 F0 (sepP []::ls) w :=
 st.push (F:=fun _=>False) (Mod.refl _ w) (by show Sep [] w _;exact fun x h=>h) (fun _ h=>h.elim)
theorem Step.rowNil0 {T:TypeId} {sz:Nat} (st:Step w0 F0 ls w):Step w0 F0 (rowP T sz (.slice none 0 0) 0 []::ls) w :=
 st.push (A:=rowP T sz (.slice none 0 0) 0 []) (F:=fun x=>(Value.slice none 0 0).ownBlock=some x) (Mod.refl _ _) ⟨⟨by simp,.inl ⟨rfl,rfl⟩⟩,rfl⟩ (fun x hx=>by cases hx)
theorem vm_new (F S:Int) (sizes:List Int) (v:Value) (w:World) (ht:Pol.TabIs w) (h:IntsAt w v sizes) :
 Calls Tryz.prog 11 #[.int .i64 F,.int .i64 S,v] w fun e w'=>∃ K,e=.returned (.pointer (some ⟨K.vb,0,none⟩))∧K.sbs=[]∧Step w (fun _=>False) (VL K (VmM.new F S sizes)) w':=by
 have hc:=core_new F S sizes v w ht h
 have HC:=ζh hc
 clear hc ht h
 go_enter Tryz.func11,Tryz.ntmps11
 go_wp2_with fail
 refine HC.out.mono ?_
 rintro e w1 ⟨K,rfl,st1⟩
 have st2:=Step.localAt 1 (cs:=#[.pointer (some ⟨K.b,0,none⟩),.slice none 0 0]) (T:=55) st1
 have ST3:Hid (Step w (fun _=>False) (VL ⟨w1.heap.size,K,.slice none 0 0,[]⟩ (VmM.new F S sizes)) (w1.alloc (.cells #[.pointer (some ⟨K.b,0,none⟩),.slice none 0 0] 55))) :=
  ζh (Step.back 3 (Step.sepNil (Step.back 2 (Step.rowNil0 st2))))
 clear st1 st2 HC
 go_wp2_with fail
 go_ret
 exact ⟨_,rfl,rfl,ST3.out⟩
end
end Go.Proofs.YtkfoeonggmlebaaGreatDoor
