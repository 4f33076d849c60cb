/-
  Contracts of the program's functions, and plain facts, towards the laws of millpondtop. No condition beyond those that each theorem bears.
-/
import Derived.Laws.AppendOwnNone
import Derived.Test.YtkfoeonggmlebaaGreatDoorQ40
import Derived.Test.YtkfoeonggmlebaaGreatDoorQAA
set_option maxRecDepth 100000
set_option maxHeartbeats 4000000
namespace Go.Proofs.YtkfoeonggmlebaaGreatDoor
section
open Go.RowKit Go.Shelf Go.ChangeShapes Go.WideShapes
open Vic (Prc doomK doomK_succ doomL vicL atOnce vicL_cases)
attribute [local go_sem] Oper.semAt_some
variable {w0 w:World} {F0:Nat→Prop} {A B C P:Part} {ls ps L:List Part} {K:VK} {v:VmM} {N:Nat} {c:CoM} {CKK:CK}
theorem mem_doomK {ps:List Prc} {ins:List Int} {y:Int}:∀ k,y∈doomK ps ins k→∃ (j:Nat) (p:Prc),y=j∧j < k∧ps[j]?=some p∧p.live=true:=by
 intro k
 induction k with
 | zero=>intro h;rw [doomK.eq_1] at h;cases h
 | succ k ih =>
   intro h
   rw [doomK.eq_2] at h
   cases hk:ps[k]? with
   | none =>
     rw [hk] at h
     obtain ⟨j,p,h1,h2,h3⟩:=ih h
     exact ⟨j,p,h1,by omega,h3⟩
   | some q =>
     rw [hk] at h
     simp only at h
     split at h
     · rename_i hq
       rcases List.mem_append.1 h with h | h
       · obtain ⟨j,p,h1,h2,h3⟩:=ih h
         exact ⟨j,p,h1,by omega,h3⟩
       · rw [List.mem_singleton] at h
         rw [Bool.and_eq_true] at hq
         exact ⟨k,q,h,by omega,hk,hq.1⟩
     · obtain ⟨j,p,h1,h2,h3⟩:=ih h
       exact ⟨j,p,h1,by omega,h3⟩
theorem sorted_doomK (ps:List Prc) (ins:List Int):∀ k,(doomK ps ins k).Pairwise (· < ·):=by
 intro k
 induction k with
 | zero=>rw [doomK.eq_1];exact List.Pairwise.nil
 | succ k ih =>
   rw [doomK.eq_2]
   cases hk:ps[k]? with
   | none=>exact ih
   | some q =>
     show (if _ then _ else _:List Int).Pairwise (· < ·)
     split
     · rw [List.pairwise_append]
       refine ⟨ih,List.pairwise_singleton _ _,fun a ha b hb=>?_⟩
       rw [List.mem_singleton] at hb
       subst hb
       obtain ⟨j,_,rfl,hj,_⟩:=mem_doomK k ha
       omega
     · exact ih
theorem doom_each {l:List Tre.Grp} {ps:List Prc} {t:Int} {wh:List Bool} {y:Int} (hy:y∈doomL l ps t wh):∃ (j:Nat) (p:Prc),y=j∧ps[j]?=some p∧p.live=true:=by
 unfold doomL at hy
 split at hy
 · cases hy
 · rename_i hv
   rcases vicL_cases (L:=l) (ps:=ps) (t:=t) with ⟨hneg,_⟩ | ⟨j,p,hvj,hj,hpj,hpl,hpg⟩
   · exact absurd hneg hv
   · split at hy
     · rw [List.mem_singleton] at hy
       rw [hy,hvj]
       exact ⟨j,p,rfl,hpj,hpl⟩
     · obtain ⟨j2,p2,h1,_,h3,h4⟩:=mem_doomK _ hy
       exact ⟨j2,p2,h1,h3,h4⟩
theorem doom_sorted (l:List Tre.Grp) (ps:List Prc) (t:Int) (wh:List Bool):(doomL l ps t wh).Pairwise (· < ·):=by
 unfold doomL
 split
 · exact List.Pairwise.nil
 · split
   · exact List.pairwise_singleton _ _
   · exact sorted_doomK _ _ _
def Alive (v:VmM) (d:List Int):Prop:=d.Pairwise (· < ·)∧∀ y∈d,∃ (j:Nat) (g:Int) (s:SpM),y=j∧v.procs[j]?=some (g,some s)
theorem doomed_alive (v:VmM) (t:Int):Alive v (v.doomed t):=by
 refine ⟨doom_sorted _ _ _ _,fun y hy=>?_⟩
 obtain ⟨j,p,rfl,hj,hl⟩:=doom_each hy
 unfold VmM.prcs at hj
 rw [List.getElem?_map] at hj
 cases hp:v.procs[j]? with
 | none=>rw [hp] at hj;cases hj
 | some q =>
   rw [hp] at hj
   injection hj with hj
   obtain ⟨g,o⟩:=q
   cases o with
   | none=>subst hj;cases hl
   | some s=>exact ⟨j,g,s,rfl,hp⟩
theorem small_letGo {N:Nat}:∀ (ids:List Int) {c:CoM},CSmall N c→CSmall N (VmM.letGo c ids)
 | [],_,h=>h
 | x::l,c,h=>by
   show CSmall N (VmM.letGo (c.refer x (-1)) l)
   exact small_letGo l (csmall_refer h x (-1))
theorem VOk.exit {i:Nat} {g:Int} {s:SpM} (h:VOk N K v) (hp:v.procs[i]?=some (g,some s)):VOk N K (v.exit i):=by
 rw [exit_nat hp]
 refine ⟨by simp [h.len],by simpa using h.few,small_letGo _ h.core,fun p hp' s' hs=>?_⟩
 rcases List.mem_or_eq_of_mem_set hp' with hm | rfl
 · exact h.regs p hm s' hs
 · cases hs
theorem Alive.tail {x:Int} {d:List Int} (h:Alive v (x::d)):∃ (j:Nat) (g:Int) (s:SpM),x=j∧v.procs[j]?=some (g,some s)∧Alive (v.exit j) d:=by
 obtain ⟨h1,h2⟩:=h
 rw [List.pairwise_cons] at h1
 obtain ⟨j,g,s,rfl,hp⟩:=h2 x List.mem_cons_self
 refine ⟨j,g,s,rfl,hp,h1.2,fun y hy=>?_⟩
 obtain ⟨j',g',s',rfl,hp'⟩:=h2 y (List.mem_cons_of_mem _ hy)
 have:=h1.1 _ hy
 refine ⟨j',g',s',rfl,?_⟩
 rw [exit_nat hp]
 show (v.procs.set j (g,none))[j']?=_
 rw [List.getElem?_set_ne (by omega),hp']
theorem Alive.upTo:∀ (k:Nat) {d:List Int} {v:VmM},Alive v d→VOk N K v→VOk N K ((d.take k).foldl VmM.exit v)∧Alive ((d.take k).foldl VmM.exit v) (d.drop k)
 | 0,_,_,h,hv=>⟨hv,h⟩
 | k+1,[],_,h,hv=>⟨hv,h⟩
 | k+1,x::d,v,h,hv=>by
   obtain ⟨j,g,s,rfl,hp,h2⟩:=h.tail
   exact Alive.upTo k h2 (hv.exit hp)
abbrev CLb (cb vb b:Nat) (o:Opn) (a:Ans) (kv:Value):Part:=blkP cb #[.int .i64 o.kind,.int .i64 o.a,.int .i64 o.b,.int .i64 o.c,.int .i64 o.d,.pointer (some ⟨vb,0,none⟩),.pointer (some ⟨b,0,none⟩),.int .i64 a.err,.int .i64 a.n,kv] 66
abbrev CL (cb vb b:Nat) (o:Opn) (a:Ans) (kv:Value):List Part:=[CLb cb vb b o a kv,rowP 3 1 kv a.killed.length (a.killed.map encI)]
structure ClAt (w:World) (cb vb b:Nat) (o:Opn) (a:Ans) (kv:Value):Prop where
 c0:w.cell? ⟨cb,0,none⟩=some (.int .i64 o.kind)
 c1:w.cell? ⟨cb,1,none⟩=some (.int .i64 o.a)
 c2:w.cell? ⟨cb,2,none⟩=some (.int .i64 o.b)
 c3:w.cell? ⟨cb,3,none⟩=some (.int .i64 o.c)
 c4:w.cell? ⟨cb,4,none⟩=some (.int .i64 o.d)
 c5:w.cell? ⟨cb,5,none⟩=some (.pointer (some ⟨vb,0,none⟩))
 c6:w.cell? ⟨cb,6,none⟩=some (.pointer (some ⟨b,0,none⟩))
 c7:w.cell? ⟨cb,7,none⟩=some (.int .i64 a.err)
 c8:w.cell? ⟨cb,8,none⟩=some (.int .i64 a.n)
 c9:w.cell? ⟨cb,9,none⟩=some kv
 f7:w.frozen? ⟨cb,7,none⟩=false
 f8:w.frozen? ⟨cb,8,none⟩=false
 f9:w.frozen? ⟨cb,9,none⟩=false
theorem clAt {cb vb b:Nat} {o:Opn} {a:Ans} {kv:Value} {l:List Part} (st:Step w0 F0 l w) (h:CLb cb vb b o a kv∈l):ClAt w cb vb b o a kv:=by
 have hb:=st.blk h
 exact ⟨hb.cell 0,hb.cell 1,hb.cell 2,hb.cell 3,hb.cell 4,hb.cell 5,hb.cell 6,hb.cell 7,hb.cell 8,hb.cell 9,hb.frozen 7,hb.frozen 8,hb.frozen 9⟩
theorem clAtI (i:Nat) {cb vb b:Nat} {o:Opn} {a:Ans} {kv:Value} {l:List Part} (st:Step w0 F0 l w) (h:l[i]?=some (CLb cb vb b o a kv)):ClAt w cb vb b o a kv:=clAt st (ζm h)
theorem vbAtI (i:Nat) {vb cb:Nat} {pv:Value} {l:List Part} (st:Step w0 F0 l w) (h:l[i]?=some (blkP vb #[.pointer (some ⟨cb,0,none⟩),pv] 55)):w.cell? ⟨vb,0,none⟩=some (.pointer (some ⟨cb,0,none⟩))∧w.cell? ⟨vb,1,none⟩=some pv∧w.frozen? ⟨vb,1,none⟩=false:=by
 have hb:=st.blk (ζm h)
 exact ⟨hb.cell 0,hb.cell 1,hb.frozen 1⟩
theorem rowAtI (i:Nat) {T:TypeId} {sz n:Nat} {v:Value} {xs:List Value} {l:List Part} (st:Step w0 F0 l w) (h:l[i]?=some (rowP T sz v n xs)):w.ownsRow 0 T sz v n xs:=st.rowOf (ζm h)
end

section
open Go.RowKit Go.Shelf Go.ChangeShapes Go.WideShapes
attribute [local go_sem] Oper.semAt_some
variable {w0 w:World} {F0:Nat→Prop} {A B C P:Part} {ls ps L:List Part} {K:VK} {v:VmM} {N:Nat} {c:CoM} {CKK:CK}
theorem doomed_few (hV:VOk N K v) (t:Int):(v.doomed t).length≤64:=by
 have h:=doomed_alive v t
 have hs:∀ (d:List Int) (m:Nat),d.Pairwise (· < ·)→(∀ y∈d,(m:Int)≤y∧y < v.procs.length)→d.length+m≤v.procs.length∨d=[]:=by
  intro d
  induction d with
  | nil=>intro m _ _;exact .inr rfl
  | cons x d ih =>
    intro m hp hm
    rw [List.pairwise_cons] at hp
    left
    have h0:=hm x List.mem_cons_self
    rcases ih (m+1) hp.2 (fun y hy=>⟨by have:=hp.1 y hy;omega,(hm y (List.mem_cons_of_mem _ hy)).2⟩) with h1 | h1
    · rw [List.length_cons];omega
    · rw [h1,List.length_cons,List.length_nil];omega
 rcases hs _ 0 h.1 (fun y hy=>by obtain ⟨j,g,s,rfl,hp⟩:=h.2 y hy;have:=(ζi.1 hp).1;omega) with h1 | h1
 · have:=hV.few;omega
 · rw [h1];simp
theorem Step.growSlice (i:Nat) {T:TypeId} {sz n n' base:Nat} {u u':Value} {xs xs':List Value} {w':World} (st:Step w0 F0 ps w) (hi:ps[i]?=some (rowP T sz u n xs)) (h4:w'.ownsRow base T sz u' n' xs') (h5:w.grownBy w' u.ownBlock) (h7:u'.ownBlock=u.ownBlock∨u'.ownBlock=some w.heap.size) :
 Step w0 F0 (ps.set i (rowP T sz u' n' xs')) w':=by
 obtain ⟨F1,⟨h1,rfl⟩,hu⟩:=Step.updAt i st hi
 refine hu w' (rowP T sz u' n' xs') _ ((Mod.ofGrown h5).mono (fun x hx=>hx.symm)) ⟨ownsRow_base h4 (Nat.zero_le _),rfl⟩ (fun x hx=>?_)
 rcases h7 with h | h
 · left;rw [←h];exact hx
 · right;rw [h] at hx;injection hx with hx;omega
theorem rowsB {w:World} {base T n:Nat} {v:Value} {xs:List Bool} (h:w.ownsRow base T 1 v n (xs.map Value.bool)) (hn:n=xs.length):RowsAt ecB 1 w v xs:=by
 refine rowsOf (ec:=ecB) (sz:=1) (fun _=>rfl) (T:=T) (base:=base) (n:=n) ?_ hn
 have e:∀ xs:List Bool,xs.flatMap ecB=xs.map Value.bool:=by
  intro xs
  induction xs with
  | nil=>rfl
  | cons x r ih=>rw [List.flatMap_cons,List.map_cons,ih];rfl
 rw [e];exact h
theorem vm_kill {cb b:Nat} {o:Opn} {a:Ans} {kv:Value} (t:Int) (hV:VOk N K v) (hN:N≤100000) (hkl:a.killed.length≤10000) (st:Step w0 F0 (VL K v++CL cb K.vb b o a kv++ls) w) :
 Calls Tryz.prog 185 #[.pointer (some ⟨cb,0,none⟩),.int .i64 t] w fun e w'=>∃ kv',e=.returned (.bool (v.kill o.a a t).1)∧Step w0 F0 (VL K (v.kill o.a a t).2.2++CL cb K.vb b o (v.kill o.a a t).2.1 kv'++ls) w':=by
 have hc:=clAtI 4 st rfl
 have k5:=hc.c5
 have kv0:=(vbAtI 1 st rfl).1
 have hal:=doomed_alive v t
 have hdf:=doomed_few hV t
 obtain ⟨D,hD⟩:∃ D,D=v.doomed t:=⟨_,rfl⟩
 have hkill:v.kill o.a a t=if D.length=0 then (false,{ a with killed:=a.killed++D,err:=12 },D.foldl VmM.exit v) else if o.a∈D then (false,{ a with killed:=a.killed++D,err:=13 },D.foldl VmM.exit v) else (true,{ a with killed:=a.killed++D },D.foldl VmM.exit v):=by unfold VmM.kill;rw [←hD]
 rw [←hD] at hal hdf
 obtain ⟨R,hR⟩:∃ R,R=v.kill o.a a t:=⟨_,rfl⟩
 rw [←hR] at hkill ⊢
 have ST:=ζh st
 have HD:=ζh hD
 have HAL:=ζh hal
 have HKI:=ζh hkill
 have HV:=ζh hV
 clear hc hD hal hkill hR st hV
 go_enter Tryz.func185,Tryz.ntmps185
 go_wp2_with fail
 go_region_held3 (fun w'=>w'.cell? ⟨cb,5,none⟩=some (.pointer (some ⟨K.vb,0,none⟩))∧w'.cell? ⟨K.vb,0,none⟩=some (.pointer (some ⟨K.co.b,0,none⟩))) (first | exact ⟨k5,kv0⟩ | exact ⟨q5,q0⟩ | exact ⟨r5,r0⟩ | exact ⟨s5,s0⟩) (first
  | (go_at_call 50;refine (core_tree ST.out.drew).mono ?_;rintro e wt ⟨rfl,rfl⟩)
  | (go_at_call 13;refine (vm_procs (ls:=CL cb K.vb b o a kv++ls) HV.out.len HV.out.few ST.out.drew).mono ?_;rintro e wa ⟨pv,rfl,sta⟩;have q5:=(clAtI 5 sta rfl).c5;have q0:=(vbAtI 2 sta rfl).1)
  | (go_at_call 232;refine (core_whole sta).mono ?_;rintro e wb ⟨wv,rfl,stb⟩;have r5:=(clAtI 6 stb rfl).c5;have r0:=(vbAtI 3 stb rfl).1)
  | (go_at_call 231;obtain ⟨F1,⟨tg,tc,htr,-⟩,-⟩:=corePart 1 stb rfl;refine (Vic.ownDoomed_any K.co.tb tg tc v.core.tree v.prcs pv t v.core.wholes wv _ htr (rowsOf Vic.ecP_len (rowAtI 2 stb rfl) (by unfold VmM.prcs;simp)) (rowsB (rowAtI 1 stb rfl) (by unfold CoM.wholes;simp)) (by unfold VmM.prcs;rw [List.length_map];have:=HV.out.few;omega)).mono ?_;rintro e wd ⟨dv,rfl,hmd,hrd⟩;have std:=stb.row hmd hrd;have s5:=(clAtI 7 std rfl).c5;have s0:=(vbAtI 4 std rfl).1))
 rename_i hHeld
 have st2:Step w0 F0 (VL K v++CL cb K.vb b o a kv++(rowP 3 1 dv D.length (D.map encI)::ls)) wd:=by
  rw [HD.out];exact (std.drop3.drop3.swap).back 6
 obtain ⟨da,dc,rfl⟩:=ownsRow_form hrd
 have hdl:(Vic.doomL v.core.tree v.prcs t v.core.wholes).length=D.length:=by rw [HD.out];rfl
 rw [hdl] at st2 ⊢
 obtain ⟨n,hn⟩:∃ n,n=D.length:=⟨_,rfl⟩
 rw [←hn] at st2 hdf ⊢
 have HN:=ζh hn
 have ST2:=ζh st2
 clear hHeld std hrd hmd htr stb sta st2 k5 kv0 q5 q0 r5 r0 s5 s0 hdl hn ST
 go_wp2_with fail
 go_loopw [33] (fun i wr=>∃ k:Nat,k≤n∧i=.int .i64 k∧Hid (Step w0 F0 (VL K ((D.take k).foldl VmM.exit v)++CL cb K.vb b o a kv++(rowP 3 1 (.slice da n dc) n (D.map encI)::ls)) wr)) (fun i _=>n - (intOf i).toNat)
 case atStart=>exact ⟨0,by omega,rfl,ζh ST2.out⟩
 case round =>
  obtain ⟨k,hk,rfl,HS⟩:=hrel
  obtain ⟨wo,rfl⟩:∃ wo:World,wo=wr:=⟨_,rfl⟩
  obtain ⟨hvk,hak⟩:=Alive.upTo k HAL.out HV.out
  by_cases hlt:k < n
  · have hkI:(k:Int) < n:=by omega
    have hkN:0≤(k:Int):=by omega
    obtain ⟨x,hx⟩:∃ x,D[k]?=some x:=⟨_,ζg (by have:=HN.out;omega)⟩
    have hdk:D.drop k=x::D.drop (k+1):=by
     have h1:=ζi.1 hx
     rw [List.drop_eq_getElem_cons h1.1,h1.2]
    rw [hdk] at hak
    obtain ⟨j,g,s,rfl,hp,_⟩:=hak.tail
    have hrow:=rowAtI 6 HS.out rfl
    obtain ⟨dg,rfl,hcell⟩:∃ g,da=some ⟨g,0,none⟩∧wo.cell? ⟨g,k,none⟩=some (.int .i64 j):=by
     rcases id hrow.2 with ⟨_,h0⟩ | ⟨g,cap,cur,hv,_⟩
     · omega
     · injection hv with hv
       subst hv
       refine ⟨g,rfl,?_⟩
       have:=hrow.cellAt k (by simp;have:=HN.out;omega)
       rw [this,List.getElem?_map,hx]
       rfl
    have hjl:=(ζi.1 hp).1
    obtain ⟨bj,hbj⟩:∃ bj,K.sbs[j]?=some bj:=⟨_,ζg (by rw [hvk.len];exact hjl)⟩
    have hex:=vm_exit hp hbj hvk.len (by have:=hvk.regs _ (ζm hp) s rfl;omega) HS.out
    have hts:D.take (k+1)=D.take k++[(j:Int)]:=by rw [List.take_add_one,hx];rfl
    have hst:((D.take k).foldl VmM.exit v).exit j=(D.take (k+1)).foldl VmM.exit v:=by rw [hts,List.foldl_append];rfl
    rw [hst] at hex
    have c5:=(clAtI 4 HS.out rfl).c5
    have HEX:=ζh hex
    clear hx hdk hak hp hrow hjl hbj hex hts hst hvk HS
    go_wp2_with fail
    refine HEX.out.mono ?_
    rintro e w3 ⟨rfl,st4⟩
    have ST4:=ζh st4
    clear st4 HEX c5 hcell
    go_wp2_with fail
    go_roundw
    case rel=>exact ⟨k+1,by omega,by go_num,ST4⟩
    case measure=>simp [intOf];omega
  · obtain rfl:k=n:=by omega
    have hst:=HS.out
    rw [List.take_of_length_le (by have:=HN.out;omega)] at hst
    have hcl:=clAtI 4 hst rfl
    have k9:=hcl.c9
    have g9:=hcl.f9
    have hkr:=rowAtI 5 hst rfl
    obtain ⟨ka,kc,rfl⟩:=ownsRow_form hkr
    have HST:=ζh hst
    have HKR:=ζh hkr
    clear hst HS hcl hkr hvk hak
    have hrd:=rowAtI 6 HST.out rfl
    rcases id hrd.2 with ⟨hnil,h0⟩ | ⟨dg,cap,cur,hdv,_⟩
    · injection hnil with e1 e2 e3
      subst e1 e2 e3
      have hd0:D=[]:=List.length_eq_zero_iff.1 HN.out.symm
      subst hd0
      have hr:=HKI.out
      simp only [List.length_nil,if_pos,List.append_nil,List.foldl_nil] at hr
      obtain ⟨i,hi1,hz,h2,h3⟩:=info_parts Tre.info_int
      have HI:=ζh hi1
      have HRR:=ζh hr
      have st3:=Step.setAt 4 (j:=9) (v:=.slice ka a.killed.length kc) HST.out rfl
      have hc3:=clAtI 4 (o:=o) (a:=a) st3 rfl
      have c7:=hc3.c7
      have g7:=hc3.f7
      have st4:=Step.setAt 4 (j:=7) (v:=.int .i64 12) st3 rfl
      have ST4:=ζh st4
      clear hi1 hz h2 h3 hrd hr st3 hc3 st4
      go_wp2_with (at_builtin;go_loud (refine wpList_append_own_none rfl _ _ 30 rfl 0 3 i 1 Tryz.underlying30 HI.out _ _ _ rfl HKR.out rfl ?_))
      go_ret
      rw [HRR.out]
      first | exact ⟨_,rfl,Step.drop (Step.front 6 ST4.out rfl)⟩ | exact ⟨rfl,_,Step.drop (Step.front 6 ST4.out rfl)⟩
    · injection hdv with e1 e2 e3
      subst e1 e3
      have hnews:∀ j u,(D.map encI)[j]?=some u→wo.cell? ((⟨dg,0,none⟩:Addr).add j)=some u:=fun j u hj=>by
       have e:(Addr.add ⟨dg,0,none⟩ j)=⟨dg,j,none⟩:=by unfold Addr.add;split<;>simp_all
       have h1:=hrd.cellAt j (by have:=(ζi.1 hj).1;rw [List.length_map] at this;have:=HN.out;omega)
       rw [e]
       exact h1.trans hj
      have hdl:(D.map encI).length=k * 1:=by rw [List.length_map];have:=HN.out;omega
      have hone:∀ u∈D.map encI,u.oneCell'=true:=fun u hu=>by
       obtain ⟨y,_,rfl⟩:=List.mem_map.1 hu
       rfl
      obtain ⟨i,hi1,hz,h2,h3⟩:=info_parts Tre.info_int
      have HI:=ζh hi1
      have HZ:=ζh hz
      have HI2:=ζh h2
      have HI3:=ζh h3
      have HNW:=ζh hnews
      have HDL:=ζh hdl
      have HON:=ζh hone
      clear hi1 hz h2 h3 hrd hnews hdl hone
      go_upto_region 9 with (at_builtin;go_loud (refine wpList_append_own_at _ rfl _ _ 30 rfl 0 3 i _ 1 8 Tryz.underlying30 HI.out HZ.out HI2.out HI3.out rfl (by decide) _ _ _ rfl HKR.out ⟨dg,0,none⟩ k dc (D.map encI) rfl HDL.out HNW.out HON.out (by unfold maxLen;omega) (by omega) (Nat.zero_le _) ?_;intro v' w' h4 h5 h6 h7;obtain ⟨va,vc,rfl⟩:=ownsRow_form h4;have st5:=Step.growSlice 5 HST.out rfl h4 h5 h7;have hc5:=clAtI 4 (o:=o) (a:=a) st5 rfl;have q9:=hc5.c9;have p9:=hc5.f9;have st6:=Step.setAt 4 (j:=9) (v:=.slice va (a.killed.length+k) vc) st5 rfl;have ST6:=ζh st6;clear h4 h5 h6 h7 st5 hc5 st6))
      clear q9 p9 k9 g9
      have hap:a.killed.map encI++D.map encI=(a.killed++D).map encI:=by rw [List.map_append]
      have hal:a.killed.length+k=(a.killed++D).length:=by rw [List.length_append,←HN.out]
      have st7:=ST6.out
      rw [hap,hal] at st7
      rw [hal]
      obtain ⟨w7,hw7⟩:∃ w7,w7=w'.setCell ⟨cb,9,none⟩ (.slice va (a.killed++D).length vc):=⟨_,rfl⟩
      rw [←hw7] at st7 ⊢
      have hc7:=clAtI 4 (o:=o) (a:={ a with killed:=a.killed++D }) (kv:=.slice va (a.killed++D).length vc) st7 rfl
      have r1:=hc7.c1
      have r7:=hc7.c7
      have p7:=hc7.f7
      have hin:=Tre.ints_of_row (xs:=D) (by have:=rowAtI 6 st7 rfl;rw [HN.out] at this;exact this)
      have ST7:=ζh st7
      have HIN:=ζh hin
      clear hap hal hw7 hc7 st7 hin ST6
      by_cases hk0:k=0
      · have b0:((k:Int)==0)=true:=by simp [hk0]
        have hr:=HKI.out
        rw [if_pos (by have:=HN.out;omega)] at hr
        have HRR:=ζh hr
        have ST8:=ζh (Step.setAt 4 (j:=7) (v:=.int .i64 12) ST7.out rfl)
        clear hk0 hr
        go_wp2_with fail
        go_ret
        rw [HRR.out]
        first | exact ⟨_,rfl,Step.drop (Step.front 6 ST8.out rfl)⟩ | exact ⟨rfl,_,Step.drop (Step.front 6 ST8.out rfl)⟩
      · have b0:((k:Int)==0)=false:=by simp [hk0]
        have hr:=HKI.out
        rw [if_neg (by have:=HN.out;omega)] at hr
        have hct:=Tre.contains_any D _ o.a w7 HIN.out
        rw [←HN.out] at hct
        by_cases hm:o.a∈D
        · rw [if_pos hm] at hr
          rw [decide_eq_true hm] at hct
          have HRR:=ζh hr
          have HCT:=ζh hct
          have ST8:=ζh (Step.setAt 4 (j:=7) (v:=.int .i64 13) ST7.out rfl)
          clear hk0 hr hct hm
          go_wp2_with fail
          refine HCT.out.mono ?_
          rintro e w8 ⟨rfl,rfl⟩
          go_wp2_with fail
          go_ret
          rw [HRR.out]
          first | exact ⟨_,rfl,Step.drop (Step.front 6 ST8.out rfl)⟩ | exact ⟨rfl,_,Step.drop (Step.front 6 ST8.out rfl)⟩
        · rw [if_neg hm] at hr
          rw [decide_eq_false hm] at hct
          have HRR:=ζh hr
          have HCT:=ζh hct
          clear hk0 hr hct hm
          go_wp2_with fail
          refine HCT.out.mono ?_
          rintro e w8 ⟨rfl,rfl⟩
          go_wp2_with fail
          go_ret
          rw [HRR.out]
          first | exact ⟨_,rfl,Step.drop (Step.front 6 ST7.out rfl)⟩ | exact ⟨rfl,_,Step.drop (Step.front 6 ST7.out rfl)⟩
end

section
open Go.RowKit Go.Shelf Go.ChangeShapes Go.WideShapes
attribute [local go_sem] Oper.semAt_some
variable {w0 w:World} {F0:Nat→Prop} {A B C P:Part} {ls ps L:List Part} {K:VK} {v:VmM} {N:Nat} {c:CoM} {CKK:CK}
theorem least {p:Nat→Prop} (h:∃ n,p n):∃ n,p n∧∀ m,p m→n≤m:=by
 obtain ⟨n,hn⟩:=h
 induction n using Nat.strongRecOn with
 | ind n ih =>
   by_cases hx:∃ m,m < n∧p m
   · obtain ⟨m,h1,h2⟩:=hx
     exact ih m h1 h2
   · exact ⟨n,hn,fun m hm=>by
      by_cases h:n≤m
      · exact h
      · exact absurd ⟨m,by omega,hm⟩ hx⟩
open Classical in
noncomputable def leastOf (p:Nat→Prop):Nat:=if h:∃ n,p n then Classical.choose (least h) else 0
theorem leastOf_spec {p:Nat→Prop} (h:∃ n,p n):p (leastOf p)∧∀ m,p m→leastOf p≤m:=by
 unfold leastOf
 rw [dif_pos h]
 exact Classical.choose_spec (least h)
theorem wp_scope_ind {P:Program} {a:Act} {w:World} {Q:Exit→Act→World→Prop} {c rest:Code} (l:Nat) (J:Nat→Act→World→Prop) (hf:findLabel c l=some (Code.skip.seq rest))
 (pass:∀ n a w,J n a w→rest.wp P (Exit.jump l (fun a' w'=>∃ m,m < n∧J m a' w') Q) a w)
 (first:(∀ a w,(∃ n,J n a w)→rest.wp P (Exit.jump l (fun a w=>∃ n,J n a w) Q) a w)→c.wp P (Exit.jump l (fun a w=>∃ n,J n a w) Q) a w):(Code.scope c).wp P Q a w:=by
 refine wp_scope_again l (fun a w=>∃ n,J n a w) (fun a w=>leastOf fun n=>J n a w) hf ?_ first
 intro a w h
 obtain ⟨h1,h2⟩:=leastOf_spec h
 refine Code.wp_mono ?_ (pass _ a w h1)
 intro e a' w' he
 cases e with
 | goto t =>
   obtain ⟨h3,m,hm,hj⟩:=(he:t=l∧∃ m,(m < leastOf fun n=>J n a w)∧J m a' w')
   exact (⟨h3,⟨m,hj⟩,Nat.lt_of_le_of_lt ((leastOf_spec ⟨m,hj⟩).2 m hj) hm⟩:t=l∧(∃ n,J n a' w')∧(leastOf fun n=>J n a' w') < leastOf fun n=>J n a w)
 | normal=>exact he
 | ret=>exact he
 | exit id=>exact he
 | panic ch=>exact he
 | outgrown=>exact he
theorem what_small {N:Nat} {c:CoM} (h:CSmall N c) (hN:N≤1000000) (g:Int) (x:VmM.What):CSmall (N+2) (VmM.what c g x).2:=by
 cases x with
 | bring id=>exact (csmall_bring h id g).up (by omega)
 | «open» f i=>exact csmall_open h hN f i g
 | copy id=>exact (csmall_copy h hN id g).up (by omega)
 | fresh=>exact (csmall_fresh h hN g).up (by omega)
theorem VOk.up {M:Nat} (h:VOk N K v) (hm:N≤M):VOk M K v:=⟨h.len,h.few,h.core.up hm,fun p hp s hs=>Nat.le_trans (h.regs p hp s hs) hm⟩
theorem VOk.withCore {c:CoM} {M:Nat} (h:VOk N K v) (hm:N≤M) (hc:CSmall M c):VOk M K { v with core:=c }:=⟨h.len,h.few,hc,fun p hp s hs=>Nat.le_trans (h.regs p hp s hs) hm⟩
theorem lives_exit {i:Nat} {g:Int} {s:SpM} (hp:v.procs[i]?=some (g,some s)):(v.exit i).lives+1=v.lives:=by
 rw [exit_nat hp]
 unfold VmM.lives
 simp only
 generalize v.procs=l at hp
 induction l generalizing i with
 | nil=>simp at hp
 | cons q l ih =>
   cases i with
   | zero =>
     simp at hp
     subst hp
     simp [List.filter_cons]
   | succ i =>
     simp only [ζc] at hp
     have:=ih hp
     rw [List.set_cons_succ,List.filter_cons,List.filter_cons]
     split
     · simp only [List.length_cons];omega
     · exact this
theorem lives_doom:∀ {d:List Int} {v:VmM},Alive v d→(d.foldl VmM.exit v).lives+d.length=v.lives
 | [],_,_=>rfl
 | x::d,v,h=>by
   obtain ⟨j,g,s,rfl,hp,h2⟩:=h.tail
   have h3:=lives_doom h2
   have h4:=lives_exit hp
   rw [List.foldl_cons,List.length_cons]
   omega
structure KillOk (N:Nat) (K:VK) (v:VmM) (a:Ans) (r:Bool × Ans × VmM):Prop where
 ok:VOk N K r.2.2
 few:r.2.1.killed.length≤a.killed.length+64
 less:r.1=true→r.2.2.lives+1≤v.lives
 len:r.2.2.procs.length=v.procs.length
theorem exits_len:∀ (d:List Int) (v:VmM),(d.foldl VmM.exit v).procs.length=v.procs.length
 | [],_=>rfl
 | x::d,v=>by
   rw [List.foldl_cons,exits_len d]
   unfold VmM.exit
   split
   · unfold VmM.setSp;simp
   · rfl
theorem kill_ok (h:VOk N K v) (p t:Int) (a:Ans):KillOk N K v a (v.kill p a t):=by
 have hal:=doomed_alive v t
 have hf:=doomed_few h t
 have h1:=(Alive.upTo (v.doomed t).length hal h).1
 rw [List.take_length] at h1
 have h2:=lives_doom hal
 have h3:=exits_len (v.doomed t) v
 unfold VmM.kill
 simp only
 split
 · exact ⟨h1,by simp [hf],by simp,h3⟩
 · split
   · exact ⟨h1,by simp [hf],by simp,h3⟩
   · exact ⟨h1,by simp [hf],fun _=>by show VmM.lives ((v.doomed t).foldl VmM.exit v)+1≤_;omega,h3⟩
end

section
open Go.RowKit Go.Shelf Go.ChangeShapes Go.WideShapes
attribute [local go_sem] Oper.semAt_some
variable {w0 w:World} {F0:Nat→Prop} {A B C P:Part} {ls ps L:List Part} {K:VK} {v:VmM} {N:Nat} {c:CoM} {CKK:CK} {cb b:Nat} {o:Opn} {a:Ans} {kv:Value}
structure DoAt (w0:World) (F0:Nat→Prop) (K:VK) (cb b:Nat) (o:Opn) (ls:List Part) (fn:Nat) (lb:Array Value) (x:VmM.What):Prop where
 call:∀ (N:Nat) (v:VmM) (a:Ans) (kv:Value) (g:Int) (w:World),VOk N K v→N≤90000→Step w0 F0 (VL K v++CL cb K.vb b o a kv++ls) w →
  Calls Tryz.prog fn (#[.int .i64 g]++lb) w fun e w'=>e=.returned (.tuple #[.int .i64 (VmM.what v.core g x).1.1,.int .i64 (VmM.what v.core g x).1.2.1,.int .i64 (VmM.what v.core g x).1.2.2])∧Step w0 F0 (VL K { v with core:=(VmM.what v.core g x).2 }++CL cb K.vb b o a kv++ls) w'
 enter:∀ (args:Array Value) (w':World),(callFunc fn args).run Tryz.prog w'=.ok (.enter fn args) w'
theorem tryF_succ (n:Nat) (v:VmM) (a:Int) (o:Ans) (x:VmM.What):VmM.tryF (n+1) v a o x =
 if (VmM.what v.core (v.group a) x).1.2.2=0 then (((VmM.what v.core (v.group a) x).1.1,true),o,{ v with core:=(VmM.what v.core (v.group a) x).2 })
 else if (VmM.what v.core (v.group a) x).1.2.2≠12 then ((-1,false),{ o with err:=(VmM.what v.core (v.group a) x).1.2.2 },{ v with core:=(VmM.what v.core (v.group a) x).2 })
 else if (VmM.kill { v with core:=(VmM.what v.core (v.group a) x).2 } a o (VmM.what v.core (v.group a) x).1.2.1).1=true then VmM.tryF n (VmM.kill { v with core:=(VmM.what v.core (v.group a) x).2 } a o (VmM.what v.core (v.group a) x).1.2.1).2.2 a (VmM.kill { v with core:=(VmM.what v.core (v.group a) x).2 } a o (VmM.what v.core (v.group a) x).1.2.1).2.1 x
 else ((-1,false),(VmM.kill { v with core:=(VmM.what v.core (v.group a) x).2 } a o (VmM.what v.core (v.group a) x).1.2.1).2.1,(VmM.kill { v with core:=(VmM.what v.core (v.group a) x).2 } a o (VmM.what v.core (v.group a) x).1.2.1).2.2):=rfl
structure TryOk (N:Nat) (K:VK) (v:VmM) (a:Ans) (r:(Int × Bool) × Ans × VmM):Prop where
 ok:VOk (N+200) K r.2.2
 few:r.2.1.killed.length≤a.killed.length+5000
 len:r.2.2.procs.length=v.procs.length
theorem tryF_ok (p:Int) (x:VmM.What) {M Q:Nat} (hM:M≤100000):∀ (n N:Nat) (v:VmM) (a:Ans),VOk N K v→N+2 * n≤M→a.killed.length+64 * n≤Q→VOk M K (VmM.tryF n v p a x).2.2∧(VmM.tryF n v p a x).2.1.killed.length≤Q∧(VmM.tryF n v p a x).2.2.procs.length=v.procs.length:=by
 intro n
 induction n with
 | zero=>intro N v a h h1 h2;exact ⟨h.up (by omega),by show a.killed.length≤Q;omega,rfl⟩
 | succ n ih =>
   intro N v a h h1 h2
   rw [tryF_succ]
   have hw:=what_small h.core (by omega) (v.group p) x
   have h3:VOk (N+2) K { v with core:=(VmM.what v.core (v.group p) x).2 }:=h.withCore (by omega) hw
   split
   · exact ⟨h3.up (by omega),by show a.killed.length≤Q;omega,rfl⟩
   · split
     · exact ⟨h3.up (by omega),by show a.killed.length≤Q;omega,rfl⟩
     · have hk:=kill_ok h3 p (VmM.what v.core (v.group p) x).1.2.1 a
       have hf:=hk.few
       split
       · have:=ih (N+2) (VmM.kill { v with core:=(VmM.what v.core (v.group p) x).2 } p a (VmM.what v.core (v.group p) x).1.2.1).2.2 (VmM.kill { v with core:=(VmM.what v.core (v.group p) x).2 } p a (VmM.what v.core (v.group p) x).1.2.1).2.1 hk.ok (by omega) (by omega)
         exact ⟨this.1,this.2.1,this.2.2.trans hk.len⟩
       · exact ⟨hk.ok.up (by omega),by show (VmM.kill { v with core:=(VmM.what v.core (v.group p) x).2 } p a (VmM.what v.core (v.group p) x).1.2.1).2.1.killed.length≤Q;omega,hk.len⟩
theorem lives_le (v:VmM):v.lives≤v.procs.length:=List.length_filter_le _ _
theorem try_ok (h:VOk N K v) (hN:N≤90000) (p:Int) (x:VmM.What):TryOk N K v a (v.try_ p a x):=by
 have h1:=lives_le v
 have h2:=h.few
 obtain ⟨h3,h4,h5⟩:=tryF_ok (K:=K) p x (M:=N+200) (Q:=a.killed.length+5000) (by omega) (v.lives+1) N v a h (by omega) (by omega)
 exact ⟨h3,h4,h5⟩
theorem vm_try {i:Nat} {fn:Nat} {lb:Array Value} {x:VmM.What} (ho:o.a=i) (hi:i < v.procs.length) (hV:VOk N K v) (hN:N≤80000) (hkl:a.killed.length≤4000) (hdo:DoAt w0 F0 K cb b o ls fn lb x) (st:Step w0 F0 (VL K v++CL cb K.vb b o a kv++ls) w) :
 Calls Tryz.prog 111 #[.pointer (some ⟨cb,0,none⟩),.func (.func fn) #[] lb] w fun e w'=>∃ kv',e=.returned (.tuple #[.int .i64 (v.try_ o.a a x).1.1,.bool (v.try_ o.a a x).1.2])∧Step w0 F0 (VL K (v.try_ o.a a x).2.2++CL cb K.vb b o (v.try_ o.a a x).2.1 kv'++ls) w':=by
 obtain ⟨R,hR⟩:∃ R,R=v.try_ o.a a x:=⟨_,rfl⟩
 rw [←hR]
 have henter:=hdo.enter
 have HR:=ζh hR
 have HO:=ζh ho
 have HI:=ζh hi
 have HV:=ζh hV
 have HDO:=ζh hdo
 have ST:=ζh st
 have hlf:v.lives+1≤65:=by have:=lives_le v;have:=hV.few;omega
 clear hR ho hi hV hdo st
 go_enter Tryz.func111,Tryz.ntmps111
 go_wp2_with fail
 refine wp_scope_ind 0 (fun n act W=>∃ (N':Nat) (v':VmM) (a':Ans) (kv':Value) (u6 u7 u8 u9 u10 u11 u12 u13 u14 u15 u16 u17 u18 u19 u20 u21 u22 u23 u24 u25 u26 u27 u28 u29 u30 u31 u32 u33 u34 u35 u36 u37 u38 u39 u40 u41 u42 u43 u44 u45:Value),act={ tmps:=#[.pointer (some ⟨cb,0,none⟩),.func (.func fn) #[] lb,undef,undef,.int .i64 0,.bool false,u6,u7,u8,u9,u10,u11,u12,u13,u14,u15,u16,u17,u18,u19,u20,u21,u22,u23,u24,u25,u26,u27,u28,u29,u30,u31,u32,u33,u34,u35,u36,u37,u38,u39,u40,u41,u42,u43,u44,u45],defers:=[] }∧Hid (R=VmM.tryF n v' o.a a' x)∧v'.lives < n∧N'+2 * n≤80200∧a'.killed.length+64 * n≤9000∧v'.procs.length=v.procs.length∧Hid (VOk N' K v')∧Hid (Step w0 F0 (VL K v'++CL cb K.vb b o a' kv'++ls) W)) rfl ?pass ?first
 case first =>
  intro hrest
  go_wp2_with fail
  go_step3
  rename_i hX
  refine hX _ _ (hrest _ _ ⟨v.lives+1,N,v,a,kv,_,_,_,_,_,_,_,_,_,_,_,_,_,_,_,_,_,_,_,_,_,_,_,_,_,_,_,_,_,_,_,_,_,_,_,_,_,_,_,_,rfl,ζh HR.out,by omega,by omega,by omega,rfl,HV,ST⟩)
 case pass =>
  rintro n act W ⟨N',v',a',kv',u6,u7,u8,u9,u10,u11,u12,u13,u14,u15,u16,u17,u18,u19,u20,u21,u22,u23,u24,u25,u26,u27,u28,u29,u30,u31,u32,u33,u34,u35,u36,u37,u38,u39,u40,u41,u42,u43,u44,u45,rfl,HRn,hn,hN',hk',hlen,HV',HST⟩
  obtain ⟨m,rfl⟩:∃ m,n=m+1:=⟨n - 1,by omega⟩
  have hr:=HRn.out
  rw [tryF_succ] at hr
  obtain ⟨⟨g,op⟩,hp⟩:∃ p,v'.procs[i]?=some p:=⟨_,ζg (by rw [hlen];exact HI.out)⟩
  have hg:v'.group o.a=g:=by rw [HO.out];exact group_nat hp
  rw [hg] at hr
  obtain ⟨bi,hbi⟩:∃ bi,K.sbs[i]?=some bi:=⟨_,ζg (by rw [HV'.out.len,hlen];exact HI.out)⟩
  obtain ⟨ga,gc,hpv,c0,c1,f1,e0,-,-,-⟩:=procs_cells HST.out hp hbi HV'.out.len
  have hc:=clAtI 4 HST.out rfl
  have c5:=hc.c5
  have k1:=hc.c1
  rw [HO.out] at k1
  rw [hpv,hlen] at c1
  obtain ⟨np,hnp⟩:∃ np,np=v.procs.length:=⟨_,rfl⟩
  have i0:(0:Int)≤i:=by omega
  have i1:(i:Int) < np:=by have:=HI.out;omega
  rw [←hnp] at c1
  obtain ⟨wr,hwr⟩:∃ wr,wr=VmM.what v'.core g x:=⟨_,rfl⟩
  have hcall:=HDO.out.call N' v' a' kv' g _ HV'.out (by omega) HST.out.drew
  have hws:=what_small HV'.out.core (by omega) g x
  rw [←hwr] at hcall hr hws
  have hvo:VOk (N'+2) K { v' with core:=wr.2 }:=HV'.out.withCore (by omega) hws
  have HC:=ζh hcall
  have HRR:=ζh hr
  have HPV:=ζh hpv
  have HNP:=ζh hnp
  have HP:=ζh hp
  have HBI:=ζh hbi
  have HVO:=ζh hvo
  have HL:=ζh hlen
  clear hr hp hg hbi hpv hc hnp hwr hcall hws hvo hlen HST HRn f1 c0
  go_wp2_with fail
  go_region_held3 (fun w'=>w'.cell? ⟨cb,5,none⟩=some (.pointer (some ⟨K.vb,0,none⟩))∧w'.cell? ⟨cb,1,none⟩=some (.int .i64 i)∧w'.cell? ⟨K.vb,1,none⟩=some (.slice (some ⟨ga,0,none⟩) np gc)∧w'.cell? ⟨ga,i * 2,none⟩=some (.int .i64 g)) (first | exact ⟨c5,k1,c1,e0⟩ | exact ⟨q5,q1,p1,p0⟩) (first
   | (refine HC.out.mono ?_;rintro e w1 ⟨rfl,st1⟩;have hc1:=clAtI 4 st1 rfl;have q5:=hc1.c5;have q1:=hc1.c1;rw [HO.out] at q1;obtain ⟨ga',gc',hpv',-,p1,-,p0,-,-,-⟩:=procs_cells st1 HP.out HBI.out HV'.out.len;have hx:=hpv'.symm.trans HPV.out;injection hx with hx1 hx2 hx3;injection hx1 with hx1;injection hx1 with hx1;subst hx1 hx3;rw [HPV.out,HL.out,←HNP.out] at p1))
  rename_i hHeld
  obtain ⟨⟨ID,T,E⟩,d⟩:=wr
  dsimp only at HRR HVO st1 ⊢
  have r7:=hc1.c7
  have g7:=hc1.f7
  have ST1:=ζh st1
  clear hHeld hc1 st1 q5 q1 p1 p0 e0 c1 c5 k1 i0 i1 hx2 hpv' HC
  by_cases h0:E=0
  · have b0:(E==0)=true:=by simp [h0]
    have hr:=HRR.out
    rw [if_pos h0] at hr
    have HRX:=ζh hr
    clear h0 hr HRR r7 g7
    go_wp2_with fail
    simp only [Exit.jump]
    go_ret2
    rw [HRX.out]
    exact ⟨_,rfl,ST1.out⟩
  · have b0:(E==0)=false:=by simp [h0]
    have hr:=HRR.out
    rw [if_neg h0] at hr
    by_cases h12:E=12
    · have b1:(E != 12)=false:=by simp [h12]
      rw [if_neg (by simp [h12])] at hr
      have hkc:=vm_kill T HVO.out (by omega) (by omega) ST1.out
      have hko:=kill_ok HVO.out o.a T a'
      obtain ⟨kr,hkr⟩:∃ kr,kr=VmM.kill { v' with core:=d } o.a a' T:=⟨_,rfl⟩
      rw [←hkr] at hr hkc hko
      obtain ⟨kt,ka,kvm⟩:=kr
      dsimp only at hr hkc hko
      have HKC:=ζh hkc
      have HKO:=ζh hko
      have HRX:=ζh hr
      clear h0 h12 hr HRR r7 g7 hkc hko hkr
      cases kt with
      | true =>
        go_wp2_with fail
        refine HKC.out.mono ?_
        rintro e w2 ⟨kv2,rfl,st2⟩
        have ST2:=ζh st2
        clear st2
        go_wp2_with fail
        refine wp_goto ?_
        have hr:=HRX.out
        first | rw [if_pos rfl] at hr | rw [if_pos trivial] at hr
        have k1:=HKO.out.ok
        have k2:=HKO.out.few
        have k3:=HKO.out.less rfl
        have k4:=HKO.out.len
        dsimp only at k1 k2 k3 k4
        have k5:VmM.lives { v' with core:=d }=v'.lives:=rfl
        exact ⟨rfl,m,by omega,N'+2,kvm,ka,kv2,_,_,_,_,_,_,_,_,_,_,_,_,_,_,_,_,_,_,_,_,_,_,_,_,_,_,_,_,_,_,_,_,_,_,_,_,_,_,_,_,rfl,ζh hr,by omega,by omega,by omega,by rw [k4];exact HL.out,ζh k1,ST2⟩
      | false =>
        go_wp2_with fail
        refine HKC.out.mono ?_
        rintro e w2 ⟨kv2,rfl,st2⟩
        have ST2:=ζh st2
        clear st2
        go_wp2_with fail
        simp only [Exit.jump]
        go_ret2
        have hr:=HRX.out
        first | rw [if_neg (by decide)] at hr | rw [if_neg (fun h=>h)] at hr
        rw [hr]
        exact ⟨_,rfl,ST2.out⟩
    · have b1:(E != 12)=true:=by simp [h12]
      rw [if_pos h12] at hr
      have HRX:=ζh hr
      have ST8:=ζh (Step.setAt 4 (j:=7) (v:=.int .i64 E) ST1.out rfl)
      clear h0 h12 hr HRR
      go_wp2_with fail
      simp only [Exit.jump]
      go_ret2
      rw [HRX.out]
      exact ⟨_,rfl,ST8.out⟩
end

section
open Go.RowKit Go.Shelf Go.ChangeShapes Go.WideShapes
open Ent (Ent)
attribute [local go_sem] Oper.semAt_some
variable {w0 w:World} {F0:Nat→Prop} {A B C P:Part} {ls ps L:List Part} {K:VK} {v:VmM} {N:Nat} {c:CoM} {CKK:CK} {cb b:Nat} {o:Opn} {a:Ans} {kv:Value}
theorem prC_keep {bs:List Nat} {l:List (Int × Option SpM)} {i bi:Nat} {g:Int} {s s':SpM} (hb:bs[i]?=some bi) (hp:l[i]?=some (g,some s)):prC bs (l.set i (g,some s'))=prC bs l:=by
 rw [←prC_sp (o':=some s') hb hp]
 exact set_same (prC_get hb hp).2
theorem vm_setSp {i bi:Nat} {g:Int} {s s':SpM} {l:List (Int × Option SpM)} (hp:l[i]?=some (g,some s)) (hb:K.sbs[i]?=some bi)
 (st:Step w0 F0 (spaceP bi s'::([coreP K.co c,blkP K.vb #[.pointer (some ⟨K.co.b,0,none⟩),K.pv] 55,rowP 68 2 K.pv l.length (prC K.sbs l),sepP ((spL K.sbs l).set i nilP)]++ls)) w) :
 Step w0 F0 (VL K ⟨c,l.set i (g,some s')⟩++ls) w:=by
 have hlt:=(ζi.1 hp).1
 have hl:i < (spL K.sbs l).length:=(ζi.1 (spL_get hb hp)).1
 have h:=Step.pushAt 3 i st rfl (by rw [List.getElem?_set_self hl])
 rw [List.set_set] at h
 have e:(spL K.sbs l).set i (spaceP bi s')=spL K.sbs (l.set i (g,some s')):=spL_set (g,some s') hb
 show Step w0 F0 ([coreP K.co c,blkP K.vb #[.pointer (some ⟨K.co.b,0,none⟩),K.pv] 55,rowP 68 2 K.pv (l.set i (g,some s')).length (prC K.sbs (l.set i (g,some s'))),sepP (spL K.sbs (l.set i (g,some s')))]++ls) w
 rw [List.length_set,prC_keep hb hp,←e]
 exact h
theorem Step.localAt (n:Nat) {cs:Array Value} {T:TypeId} (st:Step w0 F0 ps w):Step w0 F0 (ps.take n++blkP w.heap.size cs T::ps.drop n) (w.alloc (.cells cs T)) :=
 Step.back n (st.push (A:=blkP w.heap.size cs T) (F:=fun x=>x=w.heap.size) (Mod.alloc' _ w _) ⟨Blk.new w cs T,rfl⟩ (fun x hx=>by omega))
theorem Step.dropAt (n:Nat) (st:Step w0 F0 ps w) (h:ps[n]?=some A):Step w0 F0 (ps.eraseIdx n) w:=Step.drop (Step.front n st h)
theorem enter_nat {i:Nat} {g:Int} {s:SpM} (hp:v.procs[i]?=some (g,some s)) (p id:Int) (k:Nat) (wr:Bool):v.enter i p id k wr=⟨v.core.refer id 1,v.procs.set i (g,some (s.set p ⟨k,id.toNat,wr,false⟩))⟩:=by
 unfold VmM.enter
 rw [space_nat hp]
 unfold VmM.setSp
 simp only [Int.toNat_natCast]
 rw [show VmM.group ({ v with core:=v.core.refer id 1 }:VmM) i=v.group i from rfl,group_nat hp]
theorem vm_enter {i n kd:Nat} {g:Int} {s:SpM} (p:Int) (wr:Bool) (hp:v.procs[i]?=some (g,some s)) (hb:K.sbs[i]?=some b) (hkd:kd=1∨kd=2) (hn:n < 2 ^ 24) (st:Step w0 F0 (VL K v++CL cb K.vb b o a kv++ls) w) :
 Calls Tryz.prog 115 #[.pointer (some ⟨cb,0,none⟩),.int .i64 p,.int .i64 n,.int .i64 kd,.bool wr] w fun e w'=>e=.returned (.tuple #[])∧Step w0 F0 (VL K (v.enter i p n kd wr)++CL cb K.vb b o a kv++ls) w':=by
 rw [enter_nat hp]
 have hc:=clAtI 4 st rfl
 have c5:=hc.c5
 have v0:=(vbAtI 1 st rfl).1
 have hrf:=core_refer n 1 (by omega) st
 have HRF:=ζh hrf
 have HP:=ζh hp
 have HB:=ζh hb
 have hgd:(⟨kd,n,wr,false⟩:Ent).good:=⟨hkd,hn⟩
 have HG:=ζh hgd
 clear hc hrf hp hb hkd hn hgd st
 go_enter Tryz.func115,Tryz.ntmps115
 go_wp2_with fail
 refine HRF.out.mono ?_
 rintro e w1 ⟨⟨y,rfl⟩,st1⟩
 have c6:=(clAtI 4 (o:=o) (a:=a) st1 rfl).c6
 have stA:=Step.pullAt 3 i st1 rfl (spL_get HB.out HP.out)
 have hset:=sp_set p ⟨kd,n,wr,false⟩ HG.out stA
 unfold Ent.val at hset
 have HSET:=ζh hset
 clear stA hset st1 c5 v0 HRF
 simp only at HSET
 have z0:(Value.bool false)=Value.bool false:=rfl
 go_wp2_with fail
 refine HSET.out.mono ?_
 rintro e w2 ⟨⟨y2,rfl⟩,st2⟩
 have ST2:=ζh (vm_setSp (ls:=CL cb K.vb b o a kv++ls) HP.out HB.out st2)
 clear st2 c6 HSET
 go_wp2_with fail
 go_end0
 exact ⟨rfl,ST2.out⟩
theorem do_bring {r0 r1:Nat} (id:Int):DoAt w0 F0 K cb b o (blkP r1 #[.int .i64 id] 3::blkP r0 #[.pointer (some ⟨cb,0,none⟩)] 64::ls) 183 #[.pointer (some ⟨r0,0,none⟩),.pointer (some ⟨r1,0,none⟩)] (.bring id):=by
 refine ⟨?_,enters_of Tryz.func183 (by kernel_rfl) rfl⟩
 intro N v a kv g w hV hN st
 show Calls Tryz.prog 183 #[.int .i64 g,.pointer (some ⟨r0,0,none⟩),.pointer (some ⟨r1,0,none⟩)] w _
 have hc:=clAtI 4 st rfl
 have c5:=hc.c5
 have v0:=(vbAtI 1 st rfl).1
 have x0:=(st.blk (ζm (i:=7) rfl):Blk w r0 #[.pointer (some ⟨cb,0,none⟩)] 64).cell 0
 have x1:=(st.blk (ζm (i:=6) rfl):Blk w r1 #[.int .i64 id] 3).cell 0
 simp only [ζa,ζb] at x0 x1
 have hbr:=core_bring id g (by omega) hV.core.small st.drew
 obtain ⟨R,hR⟩:∃ R,R=v.core.bring id g:=⟨_,rfl⟩
 have hwh:VmM.what v.core g (.bring id)=((id,R.1.1,R.1.2),R.2):=by rw [hR];rfl
 rw [hwh]
 rw [←hR] at hbr
 have HBR:=ζh hbr
 clear hc st hbr hR hwh
 go_enter Tryz.func183,Tryz.ntmps183
 go_wp2_with fail
 go_region_held3 (fun w'=>w'.cell? ⟨r0,0,none⟩=some (.pointer (some ⟨cb,0,none⟩))∧w'.cell? ⟨cb,5,none⟩=some (.pointer (some ⟨K.vb,0,none⟩))∧w'.cell? ⟨K.vb,0,none⟩=some (.pointer (some ⟨K.co.b,0,none⟩))∧w'.cell? ⟨r1,0,none⟩=some (.int .i64 id)) (first | exact ⟨x0,c5,v0,x1⟩ | exact ⟨y0,d5,u0,y1⟩) (first
  | (go_at_call 184;refine HBR.out.mono ?_;rintro e w1 ⟨rfl,st1⟩;have d5:=(clAtI 4 (o:=o) (a:=a) st1 rfl).c5;have u0:=(vbAtI 1 st1 rfl).1;have y0:=(st1.blk (ζm (i:=7) rfl):Blk w1 r0 #[.pointer (some ⟨cb,0,none⟩)] 64).cell 0;have y1:=(st1.blk (ζm (i:=6) rfl):Blk w1 r1 #[.int .i64 id] 3).cell 0;simp only [ζa,ζb] at y0 y1))
 rename_i hHeld
 have ST1:=ζh st1
 clear hHeld st1 x0 x1 c5 v0 d5 u0 y0 HBR
 go_wp2_with fail
 go_ret3
 exact ⟨rfl,ST1.out⟩
end
end Go.Proofs.YtkfoeonggmlebaaGreatDoor
