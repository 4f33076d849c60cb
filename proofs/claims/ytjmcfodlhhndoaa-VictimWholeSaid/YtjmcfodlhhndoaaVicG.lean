/-
  Appending a whole slice to nil.
-/
import Derived.Test.YtjmcfodlhhndoaaVicQ
namespace Go.Proofs.Ytjmcfodlhhndoaa
open Go.RowKit

theorem run_append_none {P : Program} {w : World} {t ty e : TypeId} {i : TypeInfo} (ht : P.underlying t = some (.slice e)) (hi : P.info? e = some i) (c : Nat) :
    (Builtin.append_ #[t, t] ty #[.slice none 0 0, .slice none 0 c]).run P w = .ok (.slice none 0 0) w := by
  simp [Builtin.append_, run_underlying ht, sizeOf, typeInfo, hi, Builtin.lenOf, Builtin.firstCells]

theorem wpList_appNew {P : Program} {ops : Array Oper} {rest : List Oper} {o : Oper} {a : Act} {Q : Exit → Act → World → Prop} {w : World} (hgd : o.guard = none) (s x : Operand) (t : TypeId)
    (ho : o.op = .call { callee := .builtin .append, args := #[s, x], argTypes := #[t, t] })
    (base : Nat) (e : TypeId) (z : Value) (size bytes : Nat) (ht : P.underlying t = some (.slice e)) (hi : (P.info? e).map (fun i => (i.zero, i.size, i.bytes)) = some (some z, size, bytes))
    (hzs : z.cells.size = size) (hsz : 0 < size) (hby : bytes ≤ 1000) (hs : a.eval s = .slice none 0 0)
    (xa : Option Addr) (m c : Nat) (hx : a.eval x = .slice xa m c) (news : List Value) (hl : news.length = m * size)
    (hnews : ∀ j u, news[j]? = some u → ∃ ad, xa = some ad ∧ w.cell? (ad.add j) = some u) (h1 : ∀ u ∈ news, u.oneCell' = true) (hm : m ≤ 1000000000) (hbase : base ≤ w.heap.size)
    (h : ∀ v' w', w'.ownsRow base e size v' m news → Mod (fun _ => False) w w' → wpList P ops Q rest (a.put o.dst v') w') : wpList P ops Q (o :: rest) a w := by
  obtain ⟨i, hi1, hz, h2, h3⟩ := info_parts hi
  cases xa with
  | none =>
    have h0 : m = 0 := by
      cases m with
      | zero => rfl
      | succ m =>
        exfalso
        have : 0 < news.length := by rw [hl]; exact Nat.mul_pos (Nat.succ_pos _) hsz
        obtain ⟨ad, had, _⟩ := hnews 0 _ (List.getElem?_eq_getElem this)
        cases had
    subst h0
    have hn : news = [] := List.length_eq_zero_iff.1 (by rw [hl, Nat.zero_mul])
    subst hn
    refine wpList_plain hgd fun K hK => ?_
    unfold Oper.wp execOp
    simp only [ho, resolve, invoke, builtin, Sem.run_bind, Sem.run_pure, Result.andThen_ok, List.map_toArray, List.map_cons, List.map_nil, hs, hx, run_append_none ht hi1]
    exact hK _ _ (h _ w ⟨by simp, .inl ⟨rfl, rfl⟩⟩ (Mod.refl _ _))
  | some ad =>
    refine wpList_append_own_at _ hgd s x t ho base e i z size bytes ht hi1 hz h2 h3 hzs hsz (.slice none 0 0) 0 [] hs ⟨by simp, .inl ⟨rfl, rfl⟩⟩ ad m c news hx hl (fun j u hu => ?_) h1 (by unfold maxLen; omega) ?_ hbase ?_
    · obtain ⟨ad', had, hc⟩ := hnews j u hu
      injection had with had
      subst had
      exact hc
    · have : (0 + m) * bytes ≤ 1000000000 * 1000 := Nat.mul_le_mul (by omega) hby
      omega
    · intro v' w' h4 h5 _ _
      rw [Nat.zero_add, List.nil_append] at h4
      exact h v' w' h4 ((Mod.refl _ _).grown h5 (fun k hk => by cases hk))

theorem news_of_rows {α : Type} {ec : α → List Value} {sz : Nat} (hlen : ∀ x, (ec x).length = sz) (hsz : 0 < sz) {w : World} {xa : Option Addr} {m c : Nat} {xs : List α} (h : RowsAt ec sz w (.slice xa m c) xs) :
    ∀ j u, (xs.flatMap ec)[j]? = some u → ∃ ad, xa = some ad ∧ w.cell? (ad.add j) = some u := by
  obtain ⟨a, cap, h1, h2, h3, h4⟩ := h
  injection h1 with e1 e2 e3
  subst e1
  intro j u hu
  have hj := (List.getElem?_eq_some_iff.1 hu).1
  rw [flat_len hlen] at hj
  have e : j = (j / sz) * sz + j % sz := by rw [Nat.mul_comm]; exact (Nat.div_add_mod j sz).symm
  have hq : j / sz < xs.length := Nat.div_lt_of_lt_mul (by rw [Nat.mul_comm]; exact hj)
  have hr : j % sz < sz := Nat.mod_lt _ hsz
  obtain ⟨x, hx⟩ : ∃ x, xs[j / sz]? = some x := ⟨_, List.getElem?_eq_getElem hq⟩
  obtain ⟨b, off, h5, h6⟩ := h4 _ x hx
  refine ⟨⟨b, off, none⟩, h5, ?_⟩
  rw [e, flat_get hlen xs _ _ hr, hx] at hu
  have hadd := Addr.add_lit b off j
  rw [hadd]
  have h7 := h6 _ hr
  have e8 : off + j / sz * sz + j % sz = off + j := by omega
  rw [e8] at h7
  rw [h7]
  exact hu

theorem one_ecP (xs : List Prc) : ∀ u ∈ xs.flatMap ecP, u.oneCell' = true := by
  intro u hu
  obtain ⟨x, _, hx⟩ := List.mem_flatMap.1 hu
  simp only [ecP, List.mem_cons, List.not_mem_nil, or_false] at hx
  rcases hx with rfl | rfl | rfl <;> rfl

/-! ### one process more -/

theorem pickK_prefix (ps : List Prc) (x : Prc) (ins : List Int) : ∀ k, k ≤ ps.length → pickK (ps ++ [x]) ins k = pickK ps ins k := by
  intro k
  induction k with
  | zero => intro _; rfl
  | succ k ih =>
    intro hk
    rw [pickK.eq_2, pickK.eq_2, List.getElem?_append_left (by omega), ih (by omega)]

theorem pick_more (ps : List Prc) (x : Prc) (ins : List Int) : pickK (ps ++ [x]) ins (ps.length + 1) = stepP ins ps.length (pickK ps ins ps.length) x := by
  rw [pickK_succ (p := x) (by rw [List.getElem?_append_right (Nat.le_refl _), Nat.sub_self]; rfl), pickK_prefix ps x ins _ (Nat.le_refl _)]

/-! ### nobody has anything -/

def zr (bl : List Int) (p : Prc) : Prc := if p.group ∈ bl then { p with size := 0 } else p
def zeroK (bl : List Int) (ps : List Prc) (k : Nat) : List Prc := (ps.take k).map (zr bl) ++ ps.drop k

theorem zeroK_len (bl : List Int) (ps : List Prc) (k : Nat) : (zeroK bl ps k).length = ps.length := by
  unfold zeroK; simp; omega
theorem zeroK_get {bl : List Int} {ps : List Prc} {k : Nat} (hk : k < ps.length) : (zeroK bl ps k)[k]? = ps[k]? := by
  unfold zeroK
  rw [List.getElem?_append_right (by simp; omega), List.getElem?_drop]
  congr 1
  simp; omega
theorem zeroK_succ {bl : List Int} {ps : List Prc} {k : Nat} {p : Prc} (hp : ps[k]? = some p) : zeroK bl ps (k + 1) = (zeroK bl ps k).set k (zr bl p) := by
  have hk := (List.getElem?_eq_some_iff.1 hp).1
  unfold zeroK
  rw [take_succ_get hp, List.map_append, List.map_singleton, List.set_append_right _ _ (by simp; omega)]
  have e : k - ((ps.take k).map (zr bl)).length = 0 := by simp; omega
  rw [e, List.drop_eq_getElem_cons hk, List.set_cons_zero, List.append_assoc]
  rfl
theorem zeroK_all (bl : List Int) (ps : List Prc) : zeroK bl ps ps.length = ps.map (zr bl) := by
  unfold zeroK
  rw [List.take_length, List.drop_length, List.append_nil]

theorem pick_nobody {ps : List Prc} {ins : List Int} (h : ∀ p ∈ ps, p.group ∈ ins → ¬ 0 < p.size) : ∀ k, pickK ps ins k = (-1, 0) := by
  intro k
  rcases pick_ok ps ins k with ⟨h1, h2⟩ | ⟨j, p, _, _, h3, _, h5, h6, h7⟩
  · exact Prod.ext h1 h2
  · exact absurd (by omega) (h p (List.mem_of_getElem? h3) h5)

theorem doom_nobody {L : List Grp} {ps : List Prc} {t : Int} {wh : List Bool} (h : ∀ p ∈ ps, p.group ∈ belowL L t → ¬ 0 < p.size) : doomL L ps t wh = [] := by
  unfold doomL vicL
  rw [pick_nobody h]
  rfl

end Go.Proofs.Ytjmcfodlhhndoaa
