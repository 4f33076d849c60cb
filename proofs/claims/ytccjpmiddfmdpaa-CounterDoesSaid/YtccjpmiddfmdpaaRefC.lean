/-
  The contract of millpondref09's Try.
-/
import Derived.Test.YtccjpmiddfmdpaaRefB
namespace Go.Proofs.Ytccjpmiddfmdpaa
open Go.RowKit Go.ChangeShapes Go.WideShapes Go.ChangeAt

set_option maxRecDepth 100000 in
set_option maxHeartbeats 2000000 in
theorem refTry_any (R : RB) (l : List Cnt) (chain : List Int) (v : Value) (n F : Int) (w : World) (hl : RefIs w R l) (h : IntsAt w v chain) (hgd : CGood F l) (hF : 0 ≤ F ∧ F < 1000000000) (hsep : chain ≠ [] → ∀ g, v.ownBlock = some g → ¬ R.rows g) :
    Calls Try.prog 14 #[.pointer (some ⟨R.rb, 0, none⟩), v, .int .i64 n] w fun e w' =>
      e = .returned (.tuple #[.int .i64 (tryG l chain n), .int .i64 (tryE l chain n)]) ∧ Mod R.rows w w' ∧ RefIs w' R (tryS l chain n) := by
  obtain ⟨a, cp, rfl, hcap, hmax, hj⟩ := id h
  clear hj
  unfold maxLen at hmax
  cases hr : rightB chain n with
  | false =>
    have e1 : tryG l chain n = -1 := by unfold tryG; rw [hr]; rfl
    have e2 : tryE l chain n = 1 := by unfold tryE; rw [hr]; rfl
    have e3 : tryS l chain n = l := by unfold tryS; rw [hr]; rfl
    rw [e1, e2, e3]
    clear e1 e2 e3
    go_enter Try.func14, Try.ntmps14
    go_wp2_with fail
    refine (refChain_any chain _ n _ h).mono ?_
    rw [hr]
    clear hr
    rintro e w1 ⟨rfl, hm1⟩
    go_wp2_with fail
    go_ret2
    exact ⟨rfl, hm1.mono (fun _ x => x.elim), hl.keepN hm1⟩
  | true =>
    obtain ⟨hgs, hnd, hn0, hn1⟩ := rightB_groups hr
    obtain ⟨A, hA⟩ : ∃ A, A = tryG l chain n := ⟨_, rfl⟩
    obtain ⟨E, hE⟩ : ∃ E, E = tryE l chain n := ⟨_, rfl⟩
    obtain ⟨L', hL'⟩ : ∃ L', L' = tryS l chain n := ⟨_, rfl⟩
    rw [← hA, ← hE, ← hL']
    unfold tryG at hA
    unfold tryE at hE
    unfold tryS at hL'
    rw [hr, if_pos rfl] at hA hE hL'
    have HA := Lib.hid hA
    have HE := Lib.hid hE
    have HL' := Lib.hid hL'
    have hgood := fun g => ofS_good hF.1 hgd g
    have HGOOD := Lib.hid hgood
    have HGS := Lib.hid hgs
    have HND := Lib.hid hnd
    obtain ⟨hF1, hF2⟩ := hF
    clear hA hE hL' hgs hnd hgood hgd
    go_enter Try.func14, Try.ntmps14
    go_wp2_with fail
    refine (refChain_any chain _ n _ h).mono ?_
    rw [hr]
    clear hr
    rintro e w1 ⟨rfl, hm1⟩
    have hl1 := hl.keepN hm1
    have h1 := h.keep hm1 (fun _ _ x => x)
    go_wp2_with fail
    go_loopw [8] (fun i wr => ∃ k : Nat, k ≤ chain.length ∧ i = .int .i64 k ∧ (∀ x ∈ chain.take k, tryP n (ofS l x) = false) ∧ Mod (fun _ => False) w1 wr) (fun i _ => chain.length - (intOf i).toNat)
    case atStart => exact ⟨0, by omega, rfl, (fun x hx => by simp at hx), Mod.refl _ _⟩
    case round =>
      obtain ⟨k, hk, rfl, hno, hm⟩ := hrel
      by_cases hlt : k < chain.length
      · obtain ⟨g, hgk⟩ : ∃ g, chain[k]? = some g := ⟨_, List.getElem?_eq_getElem hlt⟩
        obtain ⟨b', off, rfl, hc0⟩ := intsAt_get h1 hgk
        have hc := hm.keeps hc0 (fun x => x)
        have hgg := HGS.out g (List.mem_of_getElem? hgk)
        have hfirst := firstS_take (p := tryP n) hgk hno
        have htk := take_succ_get hgk
        have hbb : ¬ R.rows b' := hsep (fun e => by rw [e] at hlt; simp at hlt) b' rfl
        obtain ⟨m, rfl, hm64⟩ := groupB_nat hgg
        have hlr := hl1.keepN hm
        have hb := hlr.blk
        have hb0 := hb.cell 0
        have hb1 := hb.cell 1
        simp only [List.getElem?_toArray, List.getElem?_cons_zero, List.getElem?_cons_succ] at hb0 hb1
        have c0 := hlr.use.cell m hm64
        have c1 := hlr.limit.cell m hm64
        have hmI : (m : Int) < 64 := by omega
        have hmN : 0 ≤ (m : Int) := by omega
        obtain ⟨q0, q1, q2, q4, q5, q6, q7⟩ := HGOOD.out m
        have q3 : (ofS l m).use ≤ 1099511627776 := by omega
        have x0 := fun x : Ext wr => x.cell hb0
        have x1 := fun x : Ext wr => x.cell hb1
        have x2 := fun x : Ext wr => x.cell c0
        have x3 := fun x : Ext wr => x.cell c1
        have x4 := fun x : Ext wr => x.cell hc
        cases hp : tryP n (ofS l m) with
        | true =>
          have hf' : firstS l (tryP n) chain = m := by rw [hfirst, if_pos hp]
          obtain rfl : A = m := by rw [HA.out, hf']
          obtain rfl : E = 22 := by rw [HE.out, hf', if_pos (by omega)]
          have hl2 : L' = l.set m { ofS l m with failed := (ofS l m).failed + 1 } := by rw [HL'.out, hf', if_pos (by omega)]; rfl
          unfold tryP at hp
          rw [Bool.and_eq_true] at hp
          obtain ⟨d0, d1⟩ := hp
          have HH := Lib.hid h
          have HH1 := Lib.hid h1
          clear hgk hgg hfirst htk hno h h1 hc0 hf' hb0 hb1 c0 c1
          go_wp2_with fail
          refine wp_region_ext_lit (by kernel_rfl) (by kernel_rfl) ?_
          repeat (go_big_quiet_step (fail))
          refine wpQuiet_nil ?_
          rintro w9 ⟨⟨w9', hm9⟩, he⟩
          obtain rfl : w9 = w9' := he
          clear x0 x1 x2 x3 x4
          have hl9 := hlr.keepN hm9
          have hb9 := hl9.blk
          have hb92 := hb9.cell 2
          simp only [List.getElem?_toArray, List.getElem?_cons_zero, List.getElem?_cons_succ] at hb92
          have c2 := hl9.failed.cell m hm64
          have hf2 := hl9.failed.frozen m
          have hc9 := hm9.keeps hc (fun x => x)
          have hset := hl9.set_failed m hm64 ((ofS l m).failed + 1) _ rfl
          rw [← hl2] at hset
          have hS := hset.keepN (Mod.refl _ _).drew
          have mA : Mod R.rows w9 (w9.setCell ⟨R.bf, m, none⟩ (.int .i64 ((ofS l m).failed + 1))).drew := (Mod.setCell (Mod.refl _ _) (.inl (.inr (.inr (.inl rfl)))) _).drew
          have hne : b' ≠ R.bf := fun e => hbb (.inr (.inr (.inl e)))
          have hne' : R.bf ≠ b' := fun e => hne e.symm
          have HS := Lib.hid hS
          clear hl2 hset hS hc
          go_wp2_with fail
          go_still_tail 12, (by kernel_rfl)
          go_wp2_with fail
          go_ret2
          exact ⟨rfl, (((hm1.trans hm).trans hm9).mono (fun _ x => x.elim)).trans mA, HS.out⟩
        | false =>
          have hno' : ∀ x ∈ chain.take (k + 1), tryP n (ofS l x) = false := by
            rw [htk]
            intro x hx
            rcases List.mem_append.1 hx with hx | hx
            · exact hno x hx
            · rw [List.mem_singleton.1 hx]; exact hp
          unfold tryP at hp
          by_cases hn : 0 < n
          case' pos =>
            have d0 : decide (0 < n) = true := by simp [hn]
            have d1 : decide ((ofS l m).limit < (ofS l m).use + n) = false := by rw [d0, Bool.true_and] at hp; exact hp
          case' neg =>
            have d0 : decide (0 < n) = false := by simp; omega
          all_goals
            have HH := Lib.hid h
            have HH1 := Lib.hid h1
            clear hgk hgg hfirst htk hno h h1 hc0 hb0 hb1 c0 c1 hp
            go_wp2_with fail
            refine wp_region_ext_lit (by kernel_rfl) (by kernel_rfl) ?_
            repeat (go_big_quiet_step (fail))
            refine wpQuiet_nil ?_
            rintro w9 ⟨⟨w9', hm9⟩, he⟩
            obtain rfl : w9 = w9' := he
            clear x0 x1 x2 x3 x4
            go_wp2_with fail
            go_roundw
            case rel => exact ⟨k + 1, by omega, by go_num, hno', hm.trans hm9⟩
            case measure => simp [intOf]; omega
      · obtain rfl : k = chain.length := by omega
        rw [List.take_length] at hno
        have hfirst := firstS_none hno
        obtain rfl : A = -1 := by rw [HA.out, hfirst]
        obtain rfl : E = 0 := by rw [HE.out, hfirst, if_neg (by omega)]
        obtain rfl : L' = chain.foldl (upUse n) l := by rw [HL'.out, hfirst, if_neg (by omega)]
        have HNO := Lib.hid hno
        clear hno hfirst
        have hlr0 := hl1.keepN hm
        have h2 := h1.keep hm (fun _ _ x => x)
        obtain ⟨wo, rfl⟩ : ∃ wo : World, wo = wr := ⟨_, rfl⟩
        have m0 : Mod R.rows w wo := (hm1.trans hm).mono (fun _ x => x.elim)
        go_wp2_with fail
        go_loopw [9] (fun i wr => ∃ k : Nat, k ≤ chain.length ∧ i = .int .i64 k ∧ RefIs wr R ((chain.take k).foldl (upUse n) l) ∧ Mod R.rows wo wr) (fun i _ => chain.length - (intOf i).toNat)
        case atStart => exact ⟨0, by omega, rfl, hlr0, Mod.refl _ _⟩
        case round =>
          obtain ⟨k, hk, rfl, hlr, hm⟩ := hrel
          by_cases hlt : k < chain.length
          · obtain ⟨g, hgk⟩ : ∃ g, chain[k]? = some g := ⟨_, List.getElem?_eq_getElem hlt⟩
            obtain ⟨b', off, rfl, hc0⟩ := intsAt_get h2 hgk
            have hbb : ¬ R.rows b' := hsep (fun e => by rw [e] at hlt; simp at hlt) b' rfl
            have hc := hm.keeps hc0 hbb
            have hgg := HGS.out g (List.mem_of_getElem? hgk)
            have hnot := nodup_take_not HND.out hgk
            have hsame := foldl_other (upUse_len n) (upUse_other n) (chain.take k) g l hl1.len (fun y hy => HGS.out y (List.mem_of_mem_take hy)) hnot
            have hsucc := foldl_take_succ (f := upUse n) (l := l) hgk
            obtain ⟨m, rfl, hm64⟩ := groupB_nat hgg
            obtain ⟨c, hcc⟩ : ∃ c, c = ofS l m := ⟨_, rfl⟩
            rw [← hcc] at hsame
            have hup : upUse n ((chain.take k).foldl (upUse n) l) m = ((chain.take k).foldl (upUse n) l).set m { c with use := c.use + n, peak := max c.peak (c.use + n) } := by
              unfold upUse; rw [Int.toNat_natCast]; unfold upUse at hsame; rw [hsame]
            have HUP := Lib.hid (hsucc.trans hup)
            generalize (chain.take k).foldl (upUse n) l = L at *
            obtain ⟨q0, q1, q2, q4, q5, _⟩ := HGOOD.out m
            rw [← hcc] at q0 q1 q2
            have q3 : c.use ≤ 1099511627776 := by omega
            have hb := hlr.blk
            have hb0 := hb.cell 0
            simp only [List.getElem?_toArray, List.getElem?_cons_zero] at hb0
            have c0 := hlr.use.cell m hm64
            rw [hsame] at c0
            have hf0 := hlr.use.frozen m
            have hl64 := hlr.len
            have hset := hlr.set_use m hm64 (c.use + n) { c with use := c.use + n } (by rw [hsame])
            have hA := hset.keepN (Mod.refl _ _).drew
            have hmA : Mod R.rows wo (wr.setCell ⟨R.bu, m, none⟩ (.int .i64 (c.use + n))).drew := (Mod.setCell hm (.inl (.inl rfl)) _).drew
            have hcA := hmA.keeps hc0 hbb
            have hmI : (m : Int) < 64 := by omega
            have hmN : 0 ≤ (m : Int) := by omega
            have HH := Lib.hid h
            have HH1 := Lib.hid h1
            have HH2 := Lib.hid h2
            have HHC := Lib.hid hcA
            clear hgk hgg hsame hsucc hup hset hnot h h1 h2 hc0 hcc hcA
            go_wp2_with fail
            go_still_tail 21, (by kernel_rfl)
            go_wp2_with fail
            have hcA := HHC.out
            clear HHC c0 hf0 hb0 hc hlr hb
            generalize (wr.setCell ⟨R.bu, m, none⟩ (.int .i64 (c.use + n))).drew = wA at *
            have hgA : ofS (L.set m { c with use := c.use + n }) m = { c with use := c.use + n } := by rw [ofS_set hl64 m _ _ hm64, if_pos rfl]
            have hb := hA.blk
            have hb0 := hb.cell 0
            have hb3 := hb.cell 3
            simp only [List.getElem?_toArray, List.getElem?_cons_zero, List.getElem?_cons_succ] at hb0 hb3
            have d0 := hA.use.cell m hm64
            have d3 := hA.peak.cell m hm64
            have df3 := hA.peak.frozen m
            rw [hgA] at d0 d3
            have hset2 := hA.set_peak m hm64 (max c.peak (c.use + n)) { c with use := c.use + n, peak := max c.peak (c.use + n) } (by rw [hgA])
            rw [List.set_set, ← HUP.out] at hset2
            have HS2 := Lib.hid hset2
            have hmx : (if c.peak < c.use + n then c.use + n else c.peak) = max c.peak (c.use + n) := by rw [Int.max_def]; split <;> split <;> omega
            clear hset2 hgA
            go_still_tail 30, (by kernel_rfl)
            go_wp2_with fail
            go_roundw
            case rel => exact ⟨k + 1, by omega, by go_num, HS2.out.keepN (Mod.refl _ _).drew, (Mod.setCell hmA (.inl (.inr (.inr (.inr rfl)))) _).drew⟩
            case measure => simp [intOf]; omega
          · obtain rfl : k = chain.length := by omega
            rw [List.take_length] at hlr
            go_wp2_with fail
            go_ret2
            exact ⟨rfl, m0.trans hm, hlr⟩

end Go.Proofs.Ytccjpmiddfmdpaa
