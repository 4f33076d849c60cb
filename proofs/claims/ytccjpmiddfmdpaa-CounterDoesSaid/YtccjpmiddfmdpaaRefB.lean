/-
  The contracts of millpondref09's methods.
-/
import Derived.Test.YtccjpmiddfmdpaaRefA
namespace Go.Proofs.Ytccjpmiddfmdpaa
open Go.RowKit Go.ChangeShapes Go.WideShapes Go.ChangeAt

set_option maxRecDepth 100000 in
set_option maxHeartbeats 1000000 in
theorem refSetLimit_any (R : RB) (l : List Cnt) (g n : Int) (w : World) (h : RefIs w R l) :
    Calls Try.prog 18 #[.pointer (some ⟨R.rb, 0, none⟩), .int .i64 g, .int .i64 n] w fun e w' =>
      e = .returned (.int .i64 (setLimE g n)) ∧ Mod R.rows w w' ∧ RefIs w' R (setLimS l g n) := by
  cases hg : groupB g
  · have e1 : setLimE g n = 1 := by unfold setLimE; rw [hg]; rfl
    have e2 : setLimS l g n = l := by unfold setLimS; rw [hg]; rfl
    rw [e1, e2]
    clear e1 e2
    go_enter Try.func18, Try.ntmps18
    go_wp2_with fail
    refine (refGroup_any g _).mono ?_
    rw [hg]
    rintro e w' ⟨rfl, rfl⟩
    go_wp2_with fail
    go_ret
    exact ⟨rfl, Mod.refl _ _, h⟩
  cases ha : amountB n
  · have e1 : setLimE g n = 1 := by unfold setLimE; rw [hg, ha]; rfl
    have e2 : setLimS l g n = l := by unfold setLimS; rw [hg, ha]; rfl
    rw [e1, e2]
    clear e1 e2
    unfold amountB at ha
    by_cases hn : n < 0
    case' pos =>
      have d0 : decide (n < 0) = true := by simp [hn]
    case' neg =>
      have d0 : decide (n < 0) = false := by simp; omega
      have d1 : decide (1099511627776 < n) = true := by simp at ha ⊢; omega
    all_goals
      clear ha
      go_enter Try.func18, Try.ntmps18
      go_wp2_with fail
      refine (refGroup_any g _).mono ?_
      rw [hg]
      rintro e w' ⟨rfl, rfl⟩
      go_wp2_with fail
      go_ret
      exact ⟨rfl, Mod.refl _ _, h⟩
  have e2 : setLimE g n = 0 := by unfold setLimE; rw [hg, ha]; rfl
  have e3 : setLimS l g n = l.set g.toNat { ofS l g with limit := n } := by unfold setLimS ofS; rw [hg, ha]; rfl
  rw [e2, e3]
  obtain ⟨k, rfl, hk⟩ := groupB_nat hg
  rw [Int.toNat_natCast]
  have d0 : decide (n < 0) = false := by unfold amountB at ha; simp at ha ⊢; omega
  have d1 : decide (1099511627776 < n) = false := by unfold amountB at ha; simp at ha ⊢; omega
  have hb := h.blk
  have hb1 := hb.cell 1
  simp only [List.getElem?_toArray, List.getElem?_cons_zero, List.getElem?_cons_succ] at hb1
  have c0 := h.limit.cell k hk
  have hf := h.limit.frozen k
  have hset := h.set_limit k hk n _ rfl
  have hkI : (k : Int) < 64 := by omega
  have hkN : 0 ≤ (k : Int) := by omega
  have HS := Lib.hid hset
  clear e2 e3 ha hset
  go_enter Try.func18, Try.ntmps18
  go_wp2_with fail
  refine (refGroup_any k _).mono ?_
  rw [hg]
  clear hg
  rintro e w' ⟨rfl, rfl⟩
  go_wp2_with fail
  go_ret
  exact ⟨rfl, (mod_setCell _ _ _ _).mono (fun i hi => .inr (.inl hi)), HS.out⟩

set_option maxRecDepth 100000 in
set_option maxHeartbeats 1000000 in
theorem refGive_any (R : RB) (l : List Cnt) (chain : List Int) (v : Value) (n F : Int) (w : World) (hl : RefIs w R l) (h : IntsAt w v chain) (hgd : CGood F l) (hF : 0 ≤ F) (hsep : chain ≠ [] → ∀ g, v.ownBlock = some g → ¬ R.rows g) :
    Calls Try.prog 16 #[.pointer (some ⟨R.rb, 0, none⟩), v, .int .i64 n] w fun e w' =>
      e = .returned (.int .i64 (giveE l chain n)) ∧ Mod R.rows w w' ∧ RefIs w' R (giveS l chain n) := by
  obtain ⟨a, cp, rfl, hcap, hmax, hj⟩ := id h
  clear hj
  unfold maxLen at hmax
  cases hr : rightB chain n with
  | false =>
    have e2 : giveE l chain n = 1 := by unfold giveE; rw [hr]; rfl
    have e3 : giveS l chain n = l := by unfold giveS; rw [hr]; rfl
    rw [e2, e3]
    clear e2 e3
    go_enter Try.func16, Try.ntmps16
    go_wp2_with fail
    refine (refChain_any chain _ n _ h).mono ?_
    rw [hr]
    clear hr
    rintro e w1 ⟨rfl, hm1⟩
    go_wp2_with fail
    go_ret
    exact ⟨rfl, hm1.mono (fun _ x => x.elim), hl.keepN hm1⟩
  | true =>
    obtain ⟨hgs, hnd, hn0, hn1⟩ := rightB_groups hr
    obtain ⟨E, hE⟩ : ∃ E, E = giveE l chain n := ⟨_, rfl⟩
    obtain ⟨L', hL'⟩ : ∃ L', L' = giveS l chain n := ⟨_, rfl⟩
    rw [← hE, ← hL']
    unfold giveE at hE
    unfold giveS at hL'
    rw [hr, if_pos rfl] at hE hL'
    have HE := Lib.hid hE
    have HL' := Lib.hid hL'
    have hgood := fun g => ofS_good hF hgd g
    have HGOOD := Lib.hid hgood
    have HGS := Lib.hid hgs
    have HND := Lib.hid hnd
    clear hE hL' hgs hnd hgood hgd
    go_enter Try.func16, Try.ntmps16
    go_wp2_with fail
    refine (refChain_any chain _ n _ h).mono ?_
    rw [hr]
    clear hr
    rintro e w1 ⟨rfl, hm1⟩
    have hl1 := hl.keepN hm1
    have h1 := h.keep hm1 (fun _ _ x => x)
    go_wp2_with fail
    go_loopw [7] (fun i wr => ∃ k : Nat, k ≤ chain.length ∧ i = .int .i64 k ∧ (∀ x ∈ chain.take k, giveP n (ofS l x) = false) ∧ Mod (fun _ => False) w1 wr) (fun i _ => chain.length - (intOf i).toNat)
    case atStart => exact ⟨0, by omega, rfl, (fun x hx => by simp at hx), Mod.refl _ _⟩
    case round =>
      obtain ⟨k, hk, rfl, hno, hm⟩ := hrel
      by_cases hlt : k < chain.length
      · obtain ⟨g, hgk⟩ : ∃ g, chain[k]? = some g := ⟨_, List.getElem?_eq_getElem hlt⟩
        obtain ⟨b', off, rfl, hc0⟩ := intsAt_get h1 hgk
        have hc := hm.keeps hc0 (fun x => x)
        have hgg := HGS.out g (List.mem_of_getElem? hgk)
        have hfirst := firstS_take (p := giveP n) hgk hno
        have htk := take_succ_get hgk
        obtain ⟨m, rfl, hm64⟩ := groupB_nat hgg
        have hlr := hl1.keepN hm
        have hb := hlr.blk
        have hb0 := hb.cell 0
        simp only [List.getElem?_toArray, List.getElem?_cons_zero] at hb0
        have c0 := hlr.use.cell m hm64
        have hmI : (m : Int) < 64 := by omega
        have hmN : 0 ≤ (m : Int) := by omega
        by_cases hp : (ofS l m).use < n
        · have d : decide ((ofS l m).use < n) = true := by simp [hp]
          have hf' : firstS l (giveP n) chain = m := by rw [hfirst, if_pos (by unfold giveP; exact d)]
          obtain rfl : E = 2 := by rw [HE.out, hf', if_pos (by omega)]
          obtain rfl : L' = l := by rw [HL'.out, hf', if_pos (by omega)]
          clear hf'
          have HH := Lib.hid h
          have HH1 := Lib.hid h1
          clear hgk hgg hfirst htk hno h h1 hc0
          go_wp2_with fail
          go_quiet (fail)
          go_wp2_with fail
          go_ret
          exact ⟨rfl, ((hm1.trans hm).drewN _).mono (fun _ x => x.elim), hlr.keepN ((Mod.refl _ _).drewN _)⟩
        · have d : decide ((ofS l m).use < n) = false := by simp; omega
          have hno' : ∀ x ∈ chain.take (k + 1), giveP n (ofS l x) = false := by
            rw [htk]
            intro x hx
            rcases List.mem_append.1 hx with hx | hx
            · exact hno x hx
            · rw [List.mem_singleton.1 hx]; unfold giveP; exact d
          have HH := Lib.hid h
          have HH1 := Lib.hid h1
          clear hgk hgg hfirst htk hno h h1 hc0
          go_wp2_with fail
          go_quiet (fail)
          go_wp2_with fail
          go_roundw
          case rel => exact ⟨k + 1, by omega, by go_num, hno', hm.drewN _⟩
          case measure => simp [intOf]; omega
      · obtain rfl : k = chain.length := by omega
        rw [List.take_length] at hno
        have hfirst := firstS_none hno
        obtain rfl : E = 0 := by rw [HE.out, hfirst, if_neg (by omega)]
        obtain rfl : L' = chain.foldl (downUse n) l := by rw [HL'.out, hfirst, if_neg (by omega)]
        have HNO := Lib.hid hno
        clear hno hfirst
        have hlr0 := hl1.keepN hm
        have h2 := h1.keep hm (fun _ _ x => x)
        obtain ⟨wo, rfl⟩ : ∃ wo : World, wo = wr := ⟨_, rfl⟩
        have m0 : Mod R.rows w wo := (hm1.trans hm).mono (fun _ x => x.elim)
        go_wp2_with fail
        go_loopw [8] (fun i wr => ∃ k : Nat, k ≤ chain.length ∧ i = .int .i64 k ∧ RefIs wr R ((chain.take k).foldl (downUse n) l) ∧ Mod R.rows wo wr) (fun i _ => chain.length - (intOf i).toNat)
        case atStart => exact ⟨0, by omega, rfl, hlr0, Mod.refl _ _⟩
        case round =>
          obtain ⟨k, hk, rfl, hlr, hm⟩ := hrel
          by_cases hlt : k < chain.length
          · obtain ⟨g, hgk⟩ : ∃ g, chain[k]? = some g := ⟨_, List.getElem?_eq_getElem hlt⟩
            obtain ⟨b', off, rfl, hc0⟩ := intsAt_get h2 hgk
            have hbb : ¬ R.rows b' := hsep (fun e => by rw [e] at hlt; simp at hlt) b' rfl
            have hc := hm.keeps hc0 hbb
            have hgg := HGS.out g (List.mem_of_getElem? hgk)
            have hnot := nodup_take_not HND.out hgk
            have hsame := foldl_other (downUse_len n) (downUse_other n) (chain.take k) g l hl1.len (fun y hy => HGS.out y (List.mem_of_mem_take hy)) hnot
            have hsucc := foldl_take_succ (f := downUse n) (l := l) hgk
            have hno1 := HNO.out g (List.mem_of_getElem? hgk)
            unfold giveP at hno1
            simp at hno1
            obtain ⟨m, rfl, hm64⟩ := groupB_nat hgg
            have hup : downUse n ((chain.take k).foldl (downUse n) l) m = ((chain.take k).foldl (downUse n) l).set m { ofS l m with use := (ofS l m).use - n } := by
              unfold downUse; rw [Int.toNat_natCast]; unfold downUse at hsame; rw [hsame]
            have HUP := Lib.hid (hsucc.trans hup)
            generalize (chain.take k).foldl (downUse n) l = L at *
            have hb := hlr.blk
            have hb0 := hb.cell 0
            simp only [List.getElem?_toArray, List.getElem?_cons_zero] at hb0
            have c0 := hlr.use.cell m hm64
            rw [hsame] at c0
            have hf0 := hlr.use.frozen m
            have hset := hlr.set_use m hm64 ((ofS l m).use - n) { ofS l m with use := (ofS l m).use - n } (by rw [hsame])
            rw [← HUP.out] at hset
            have HS := Lib.hid hset
            have hmI : (m : Int) < 64 := by omega
            have hmN : 0 ≤ (m : Int) := by omega
            obtain ⟨q0, q1, q2, _⟩ := HGOOD.out m
            have q3 : (ofS l m).use ≤ 1099511627776 := by omega
            have HH := Lib.hid h
            have HH1 := Lib.hid h1
            have HH2 := Lib.hid h2
            clear hgk hgg hsame hsucc hup hset hnot h h1 h2 hc0
            go_wp2_with fail
            go_still_tail 21, (by kernel_rfl)
            go_wp2_with fail
            go_roundw
            case rel => exact ⟨k + 1, by omega, by go_num, HS.out.keepN (Mod.refl _ _).drew, (Mod.setCell hm (.inl (.inl rfl)) _).drew⟩
            case measure => simp [intOf]; omega
          · obtain rfl : k = chain.length := by omega
            rw [List.take_length] at hlr
            go_wp2_with fail
            go_ret
            exact ⟨rfl, m0.trans hm, hlr⟩

end Go.Proofs.Ytccjpmiddfmdpaa
