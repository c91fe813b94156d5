/-
  slices.Replace at bytes, a theorem a way: a row that the call itself made, and what is put in lies in another block. Condition: fewer than 2^46 bytes in all.
-/
import Derived.Test.YtjljkcbopkldbaaIns
import Derived.Outline
namespace Go.Proofs.Ytjljkcbopkldbaa
theorem drewN_setCells (q : Nat) (g : Nat) : ∀ (vs : List Value) (o : Nat) (w : World), (w.setCells g o vs).drewN q = (w.drewN q).setCells g o vs
  | [], _, _ => rfl
  | v :: r, o, w => by rw [World.setCells, World.setCells, drewN_setCells q g r]; rfl
open Go.RowKit Go.Proofs.YtjljkcbopkldbaaW.PrintWords Go.Proofs.YtjljkcbopkldbaaW.PrintLast Go.Proofs.YtjljkcbopkldbaaW.PrintMore
set_option linter.unusedVariables false
set_option linter.unusedSimpArgs false

set_option maxHeartbeats 4000000 in
set_option maxRecDepth 100000 in
/-- in the middle, with room, more than was there -/
theorem rep_wide (g n cap i j c3 : Nat) (ad : Addr) (cur : List Value) (zs : List Int) (w : World) (hr : RowAt w g cur) (hcl : cur.length = cap) (hij : i < j) (hj : j < n) (hm : 0 < zs.length) (hroom : i + zs.length + (n - j) ≤ cap) (hw : j < i + zs.length) (hn : n ≤ cap) (h63 : cap ≤ 9223372036854775807) (hvb : ad.block ≠ g)
    (h1c : ∀ v ∈ cur.take n, v.oneCell' = true)
    (hvs : ∀ j u, (nums .u8 zs)[j]? = some u → w.cell? (ad.add j) = some u) :
    Calls Try.prog 82 #[.slice (some ⟨g, 0, none⟩) n cap, .int .i64 i, .int .i64 j, .slice (some ad) zs.length c3] w fun e w' =>
      e = .returned (.slice (some ⟨g, 0, none⟩) (i + zs.length + (n - j)) cap) ∧ ∃ q, w' = ((w.drewN q).setCells g (i + zs.length) ((cur.take n).drop j)).setCells g i (nums .u8 zs) := by
  obtain ⟨m, hmm⟩ : ∃ m, m = zs.length := ⟨_, rfl⟩
  obtain ⟨vs, hvv⟩ : ∃ vs, vs = nums .u8 zs := ⟨_, rfl⟩
  have hvl : vs.length = m := by rw [hvv, nums_length, hmm]
  have h1v : ∀ v ∈ vs, v.oneCell' = true := by rw [hvv]; exact nums_one zs
  rw [← hvv] at hvs ⊢
  rw [← hmm] at hm hroom hw ⊢
  clear hmm hvv
  obtain ⟨mid, hmid⟩ : ∃ mid, mid = (cur.take n).drop j := ⟨_, rfl⟩
  have hdl : mid.length = n - j := by rw [hmid, List.length_drop, List.length_take]; omega
  have hmc : ∀ k v, mid[k]? = some v → w.cell? ⟨g, j + k, none⟩ = some v := fun k v hk => by
    rw [hmid, List.getElem?_drop, List.getElem?_take] at hk
    split at hk
    · exact hr.cell hk
    · cases hk
  have h1m : ∀ v ∈ mid, v.oneCell' = true := fun v hv => h1c v (by rw [hmid] at hv; exact List.mem_of_mem_drop hv)
  rw [← hmid]
  clear hmid
  obtain ⟨v0, hv0⟩ : ∃ v, w.cell? ad = some v := by
    have := hvs 0 _ (List.getElem?_eq_getElem (by omega))
    exact ⟨_, by rw [add_none] at this; exact this⟩
  have hsz : (Try.prog.info? 5).map (·.size) = some 1 := by
    obtain ⟨i0, hi0, h0, h1, h2⟩ := info_parts inf5
    rw [hi0]; simp [h1]
  obtain ⟨tot, htot⟩ : ∃ tot, tot = i + m + (n - j) := ⟨_, rfl⟩
  rw [← htot] at hroom ⊢
  have e1 : (i : Int) + (m : Int) + ((n - j : Nat) : Int) = (tot : Int) := by omega
  have z1 : ¬ ((i : Int) = (j : Int)) := by omega
  have z2 : ¬ ((j : Int) = (n : Int)) := by omega
  have z3 : ¬ ((cap : Int) < (tot : Int)) := by omega
  have b1 : ¬ (cap = j) := by omega
  have b2 : ¬ (cap = i) := by omega
  have b3 : IntKind.i64.wrap ((i : Int) + (m : Int)) = (i : Int) + (m : Int) := by rw [IntKind.wrap_i64]; omega
  have b4 : IntKind.i64.wrap ((i : Int) + (m : Int) + ((n - j : Nat) : Int)) = (tot : Int) := by rw [IntKind.wrap_i64]; omega
  have b8 : IntKind.i64.wrap (tot : Int) = (tot : Int) := by rw [IntKind.wrap_i64]; omega
  have b9 : IntKind.i64.wrap ((i : Int) + (m : Int) + ((n : Int) - (j : Int))) = (tot : Int) := by rw [IntKind.wrap_i64]; omega
  have e9 : (i : Int) + (m : Int) + ((n : Int) - (j : Int)) = (tot : Int) := by omega
  have b5 : j ≤ n := by omega
  have b6 : i ≤ cap := by omega
  have b7 : i ≤ n := by omega
  have htn : ((i : Int) + (m : Int)).toNat = i + m := by omega
  have b10 : (0 : Int) ≤ (i : Int) + (m : Int) := by omega
  have b11 : ¬ (cap = i + m) := by omega
  have b12 : ¬ ((i : Int) + (m : Int) ≤ (j : Int)) := by omega
  have b13 : (i : Int) + (m : Int) ≤ (tot : Int) := by omega
  have b14 : (i : Int) ≤ (tot : Int) := by omega
  have hov : ∀ (q la ca lb cb : Nat), (callFunc 98 #[.slice (some ⟨g, i + m, none⟩) la ca, .slice (some ad) lb cb]).run Try.prog (w.drewN q) = .ok (.value (.bool false)) (w.drewN q) := fun q la ca lb cb =>
    overlaps_ours' (w := w.drewN q) (hr.drewN q) (by omega) hvb hv0 _ _ _ _ _
  have hcp1 : ∀ (W : World), (∀ x, W.cell? x = w.cell? x) → (∀ x, W.frozen? x = w.frozen? x) → ∀ ty dl dc sc, dl = tot - (i + m) → (Builtin.copy_ #[72, 72] ty #[.slice (some ⟨g, i + m, none⟩) dl dc, .slice (some ⟨g, j, none⟩) (n - j) sc]).run Try.prog W = .ok (goInt mid.length) (W.setCells g (i + m) mid) := fun W hWc hWf ty dl dc sc hdl' =>
    run_copy_cells W _ _ ty 5 g (i + m) dl dc ⟨g, j, none⟩ (n - j) sc mid Try.underlying72 hsz (by rw [hdl, hdl']; simp only [Nat.min_def]; split <;> omega)
      (fun k v hk => by rw [Addr.add_lit, hWc]; exact hmc k v hk)
      (fun k hk => by rw [hWc]; exact hr.isSome (by omega)) (fun k hk => by rw [hWf]; exact hr.frozen _) h1m
  have hl1 : (splice cur (i + m) mid).length = cap := by rw [length_splice _ _ _ (by omega), hcl]
  have hcp2 : ∀ (W : World), (∀ x, W.cell? x = (w.setCells g (i + m) mid).cell? x) → (∀ x, W.frozen? x = (w.setCells g (i + m) mid).frozen? x) → ∀ ty dl dc, dl = tot - i → (Builtin.copy_ #[72, 72] ty #[.slice (some ⟨g, i, none⟩) dl dc, .slice (some ad) m c3]).run Try.prog W = .ok (goInt vs.length) (W.setCells g i vs) := fun W hWc hWf ty dl dc hdl' =>
    have hr1 : RowAt (w.setCells g (i + m) mid) g (splice cur (i + m) mid) := RowAt.setCells mid (w := w) (i + m) hr (by omega)
    run_copy_cells W _ _ ty 5 g i dl dc ad m c3 vs Try.underlying72 hsz (by rw [hvl, hdl']; simp only [Nat.min_def]; split <;> omega)
      (fun k v hk => by rw [hWc, World.cell?_of_block (w := w) (heap_setCells_other (by rw [add_block]; exact hvb) _ _ _)]; exact hvs k v hk)
      (fun k hk => by rw [hWc]; exact hr1.isSome (by omega)) (fun k hk => by rw [hWf]; exact hr1.frozen _) h1v
  have hcpA : ∀ (q : Nat), (Builtin.copy_ #[72, 72] 3 #[.slice (some ⟨g, i + m, none⟩) (tot - (i + m)) (cap - (i + m)), .slice (some ⟨g, j, none⟩) (n - j) (cap - j)]).run Try.prog (w.drewN q) = .ok (goInt mid.length) ((w.drewN q).setCells g (i + m) mid) := fun q =>
    hcp1 (w.drewN q) (fun _ => rfl) (fun _ => rfl) 3 _ (cap - (i + m)) (cap - j) rfl
  clear hcp1
  have hcpB : ∀ (q : Nat), (Builtin.copy_ #[72, 72] 3 #[.slice (some ⟨g, i, none⟩) (tot - i) (cap - i), .slice (some ad) m c3]).run Try.prog ((w.drewN q).setCells g (i + m) mid) = .ok (goInt vs.length) (((w.drewN q).setCells g (i + m) mid).setCells g i vs) := fun q =>
    hcp2 ((w.drewN q).setCells g (i + m) mid) (fun x => by rw [← drewN_setCells]; rfl) (fun x => by rw [← drewN_setCells]; rfl) 3 _ (cap - i) rfl
  clear hcp2
  have HT := Aside0.mk htot
  clear htot
  go_enter Try.func82, Try.ntmps82
  go_wp2_with fail
  go_quiet (fail)
  go_wp2_with (simp only [hov])
  go_region
  go_wp2
  go_ret
  exact ⟨rfl, _, rfl⟩

/-- the cells of a source: none, or cells of a block -/
def Rd (W : World) (g : Nat) (A : Option Addr) (vs : List Value) : Prop :=
  0 < vs.length → ∃ ad : Addr, A = some ad ∧ ad.block ≠ g ∧ ∀ j u, vs[j]? = some u → W.cell? (ad.add j) = some u

theorem Rd.congr {W W' : World} {g : Nat} {A : Option Addr} {vs : List Value} (h : Rd W g A vs) (he : ∀ x : Addr, x.block ≠ g → W'.cell? x = W.cell? x) : Rd W' g A vs := fun hl => by
  obtain ⟨ad, e, hne, hc⟩ := h hl
  exact ⟨ad, e, hne, fun j u hj => by rw [he _ (by rw [add_block]; exact hne)]; exact hc j u hj⟩

theorem hsz5 : (Try.prog.info? 5).map (·.size) = some 1 := by
  obtain ⟨i0, hi0, h0, h1, h2⟩ := info_parts inf5
  rw [hi0]; simp [h1]

theorem copy8 (W : World) (h g o dl dc : Nat) (A : Option Addr) (m c ty : Nat) (vs : List Value) (hm : vs.length = m) (hdl : m ≤ dl) (h1 : ∀ v ∈ vs, v.oneCell' = true) (hs : Rd W h A vs)
    (hc : ∀ k, k < m → (W.cell? ⟨g, o + k, none⟩).isSome = true) (hf : ∀ k, k < m → W.frozen? ⟨g, o + k, none⟩ = false) :
    (Builtin.copy_ #[72, 72] ty #[.slice (some ⟨g, o, none⟩) dl dc, .slice A m c]).run Try.prog W = .ok (goInt vs.length) (W.setCells g o vs) := by
  by_cases h0 : m = 0
  · have hv : vs = [] := by rw [h0] at hm; exact List.length_eq_zero_iff.1 hm
    subst hv
    rw [run_copy_none W _ _ ty 5 _ _ _ _ _ _ Try.underlying72 hsz5 (by subst h0; simp [Nat.min_def])]
    rfl
  · obtain ⟨ad, e, hne, hcs⟩ := hs (by omega)
    subst e
    exact run_copy_cells W _ _ ty 5 g o dl dc ad m c vs Try.underlying72 hsz5 (by rw [hm]; simp only [Nat.min_def]; split <;> omega)
      (fun k v hk => by exact hcs k v hk) (fun k hk => hc k (by omega)) (fun k hk => hf k (by omega)) h1

theorem clear8 (W : World) (A : Option Addr) (g o n c ty : Nat) (hA : 0 < n → A = some ⟨g, o, none⟩) (hc : ∀ k, k < n → (W.cell? ⟨g, o + k, none⟩).isSome = true) (hf : ∀ k, k < n → W.frozen? ⟨g, o + k, none⟩ = false) :
    (Builtin.clear_ #[72] ty #[.slice A n c]).run Try.prog W = .ok (.tuple #[]) (W.setCells g o (List.replicate n (.int .u8 0))) := by
  by_cases h0 : n = 0
  · subst h0
    cases A <;> simp [Builtin.clear_, run_underlying Try.underlying72, World.setCells]
  · rw [hA (by omega)]
    exact Lib.run_clear_slice W 72 5 ty (.int .u8 0) Try.underlying72 zero5 rfl rfl g o n c (by omega) hc hf

set_option maxHeartbeats 4000000 in
set_option maxRecDepth 100000 in
/-- in the middle, with room, no more than was there -/
theorem rep_narrow (g n cap i j c3 : Nat) (A : Option Addr) (cur : List Value) (zs : List Int) (w : World) (hr : RowAt w g cur) (hcl : cur.length = cap) (hij : i < j) (hj : j < n) (hw : i + zs.length ≤ j) (hn : n ≤ cap) (h63 : cap ≤ 9223372036854775807)
    (h1c : ∀ v ∈ cur.take n, v.oneCell' = true) (hvs : Rd w g A (nums .u8 zs)) :
    Calls Try.prog 82 #[.slice (some ⟨g, 0, none⟩) n cap, .int .i64 i, .int .i64 j, .slice A zs.length c3] w fun e w' =>
      e = .returned (.slice (some ⟨g, 0, none⟩) (i + zs.length + (n - j)) cap) ∧
      ∃ q, w' = (((w.drewN q).setCells g i (nums .u8 zs)).setCells g (i + zs.length) ((cur.take n).drop j)).setCells g (i + zs.length + (n - j)) (List.replicate (n - (i + zs.length + (n - j))) (.int .u8 0)) := by
  obtain ⟨m, hmm⟩ : ∃ m, m = zs.length := ⟨_, rfl⟩
  obtain ⟨vs, hvv⟩ : ∃ vs, vs = nums .u8 zs := ⟨_, rfl⟩
  have hvl : vs.length = m := by rw [hvv, nums_length, hmm]
  have h1v : ∀ v ∈ vs, v.oneCell' = true := by rw [hvv]; exact nums_one zs
  rw [← hvv] at hvs ⊢
  rw [← hmm] at hw ⊢
  clear hmm hvv
  obtain ⟨mid, hmid⟩ : ∃ mid, mid = (cur.take n).drop j := ⟨_, rfl⟩
  have hdl : mid.length = n - j := by rw [hmid, List.length_drop, List.length_take]; omega
  have hmd : mid = (cur.drop j).take (n - j) := by rw [hmid, List.drop_take]
  have h1m : ∀ v ∈ mid, v.oneCell' = true := fun v hv => h1c v (by rw [hmid] at hv; exact List.mem_of_mem_drop hv)
  rw [← hmid]
  obtain ⟨tot, htot⟩ : ∃ tot, tot = i + m + (n - j) := ⟨_, rfl⟩
  rw [← htot]
  have e1 : (i : Int) + (m : Int) + ((n - j : Nat) : Int) = (tot : Int) := by omega
  have z1 : ¬ ((i : Int) = (j : Int)) := by omega
  have z2 : ¬ ((j : Int) = (n : Int)) := by omega
  have z3 : ¬ ((cap : Int) < (tot : Int)) := by omega
  have b1 : ¬ (cap = j) := by omega
  have b2 : ¬ (cap = i) := by omega
  have b3 : IntKind.i64.wrap ((i : Int) + (m : Int)) = (i : Int) + (m : Int) := by rw [IntKind.wrap_i64]; omega
  have b4 : IntKind.i64.wrap ((i : Int) + (m : Int) + ((n - j : Nat) : Int)) = (tot : Int) := by rw [IntKind.wrap_i64]; omega
  have b8 : IntKind.i64.wrap (tot : Int) = (tot : Int) := by rw [IntKind.wrap_i64]; omega
  have b9 : IntKind.i64.wrap ((i : Int) + (m : Int) + ((n : Int) - (j : Int))) = (tot : Int) := by rw [IntKind.wrap_i64]; omega
  have e9 : (i : Int) + (m : Int) + ((n : Int) - (j : Int)) = (tot : Int) := by omega
  have b5 : j ≤ n := by omega
  have b6 : i ≤ cap := by omega
  have b7 : i ≤ n := by omega
  have htn : ((i : Int) + (m : Int)).toNat = i + m := by omega
  have b10 : (0 : Int) ≤ (i : Int) + (m : Int) := by omega
  have b11 : ¬ (cap = i + m) := by omega
  have b12 : (i : Int) + (m : Int) ≤ (j : Int) := by omega
  have b13 : (i : Int) + (m : Int) ≤ (tot : Int) := by omega
  have b14 : (i : Int) ≤ (tot : Int) := by omega
  have b15 : tot ≤ n := by omega
  have b16 : (tot : Int) ≤ (n : Int) := by omega
  have b17 : tot ≤ cap := by omega
  have hcpA : ∀ (q : Nat), (Builtin.copy_ #[72, 72] 3 #[.slice (some ⟨g, i, none⟩) (tot - i) (cap - i), .slice A m c3]).run Try.prog (w.drewN q) = .ok (goInt vs.length) ((w.drewN q).setCells g i vs) := fun q =>
    copy8 (w.drewN q) g g i (tot - i) (cap - i) A m c3 3 vs hvl (by omega) h1v hvs (fun k hk => hr.isSome (by omega)) (fun k hk => hr.frozen _)
  obtain ⟨W1, hW1⟩ : ∃ W1 : Nat → World, W1 = fun q => (w.drewN q).setCells g i vs := ⟨_, rfl⟩
  have hr1 : ∀ q, RowAt (W1 q) g (splice cur i vs) := fun q => by rw [hW1]; exact RowAt.setCells vs (w := w.drewN q) i hr (by omega)
  have hl1 : (splice cur i vs).length = cap := by rw [length_splice _ _ _ (by omega), hcl]
  have hcpB : ∀ (q : Nat), (Builtin.copy_ #[72, 72] 3 #[.slice (some ⟨g, i + m, none⟩) (tot - (i + m)) (cap - (i + m)), .slice (some ⟨g, j, none⟩) (n - j) (cap - j)]).run Try.prog ((w.drewN q).setCells g i vs).drew = .ok (goInt mid.length) (((w.drewN q).setCells g i vs).drew.setCells g (i + m) mid) := fun q => by
    have := hr1 q
    rw [hW1] at this
    exact run_copy_cells ((w.drewN q).setCells g i vs).drew _ _ 3 5 g (i + m) (tot - (i + m)) (cap - (i + m)) ⟨g, j, none⟩ (n - j) (cap - j) mid Try.underlying72 hsz5 (by rw [hdl]; simp only [Nat.min_def]; split <;> omega)
      (fun k v hk => by
        rw [Addr.add_lit]
        refine this.cell ?_
        rw [hmid, List.getElem?_drop, List.getElem?_take] at hk
        split at hk
        · unfold splice
          have h3 : (cur.take i ++ vs).length = i + m := by simp [hvl]; omega
          rw [← List.append_assoc, List.getElem?_append_right (by omega), List.getElem?_drop, h3, hvl, show i + m + (j + k - (i + m)) = j + k by omega]
          exact hk
        · cases hk)
      (fun k hk => this.isSome (by omega)) (fun k hk => this.frozen _) h1m
  obtain ⟨W2, hW2⟩ : ∃ W2 : Nat → World, W2 = fun q => ((w.drewN q).setCells g i vs).drew.setCells g (i + m) mid := ⟨_, rfl⟩
  have hr2 : ∀ q, RowAt (W2 q) g (splice (splice cur i vs) (i + m) mid) := fun q => by
    have := hr1 q
    rw [hW1] at this
    rw [hW2]; exact RowAt.setCells (w := ((w.drewN q).setCells g i vs).drew) mid (i + m) this (by omega)
  have hl2 : (splice (splice cur i vs) (i + m) mid).length = cap := by rw [length_splice _ _ _ (by omega), hl1]
  obtain ⟨A2, hA2⟩ : ∃ A2 : Option Addr, A2 = if cap = tot then none else some ⟨g, tot, none⟩ := ⟨_, rfl⟩
  have hclr : ∀ (A2 : Option Addr) (q : Nat) (c ty : Nat), (A2 = some ⟨g, tot, none⟩ ∨ tot = n) → (Builtin.clear_ #[72] ty #[.slice A2 (n - tot) c]).run Try.prog (((w.drewN q).setCells g i vs).drew.setCells g (i + m) mid) = .ok (.tuple #[]) ((((w.drewN q).setCells g i vs).drew.setCells g (i + m) mid).setCells g tot (List.replicate (n - tot) (.int .u8 0))) := fun A2 q c ty hor => by
    have := hr2 q
    rw [hW2] at this
    exact clear8 _ A2 g tot (n - tot) c ty (fun h => by rcases hor with h' | h'; exact h'; omega) (fun k hk => this.isSome (by omega)) (fun k hk => this.frozen _)
  clear hW1 hW2 hA2 hr1 hr2 hvs
  have HT := Aside0.mk htot
  have HM := Aside0.mk hmid
  have HD := Aside0.mk hmd
  clear htot hmid hmd
  by_cases hct : cap = tot
  · have htn' : tot = n := by omega
    subst hct
    have hclr' : ∀ (q : Nat), (Builtin.clear_ #[72] 0 #[.slice (some ⟨g, 0, none⟩) 0 0]).run Try.prog (((w.drewN q).setCells g i vs).drew.setCells g (i + m) mid) = .ok (.tuple #[]) (((w.drewN q).setCells g i vs).drew.setCells g (i + m) mid) := fun q => by
      simp [Builtin.clear_, run_underlying Try.underlying72]
    clear hclr
    have HC := Aside0.mk htn'
    clear htn'
    go_enter Try.func82, Try.ntmps82
    go_wp2_with fail
    go_quiet (fail)
    go_wp2
    go_region
    go_wp2
    go_ret
    refine ⟨rfl, nq + 1, ?_⟩
    rw [show n - cap = 0 by omega]
    simp only [List.replicate_zero, World.setCells]
    rw [drew_setCells]
    rfl
  · have hclr' := fun q c ty => hclr (some ⟨g, tot, none⟩) q c ty (.inl rfl)
    clear hclr
    go_enter Try.func82, Try.ntmps82
    go_wp2_with fail
    go_quiet (fail)
    go_wp2
    go_region
    go_wp2
    go_ret
    refine ⟨rfl, nq + 1, ?_⟩
    rw [drew_setCells]
    rfl

end Go.Proofs.Ytjljkcbopkldbaa
