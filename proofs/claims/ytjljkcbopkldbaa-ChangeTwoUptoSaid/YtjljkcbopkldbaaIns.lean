/-
  slices.Insert at bytes: a row that the call itself made, and what is put in lies in another block: what comes out is owned by the call, and holds the text with the bytes put in. Condition: fewer than 2^46 bytes in all.
-/
import Derived.Test.YtjljkcbopkldbaaRow
namespace Go.Proofs.Ytjljkcbopkldbaa
open Go.RowKit Go.Proofs.YtjljkcbopkldbaaW.PrintWords Go.Proofs.YtjljkcbopkldbaaW.PrintLast Go.Proofs.YtjljkcbopkldbaaW.PrintMore
set_option linter.unusedVariables false
set_option linter.unusedSimpArgs false

theorem sz5 (w : World) : (Go.sizeOf 5).run Try.prog w = .ok 1 w := by kernel_rfl
theorem zero5 (w : World) : (zeroValue 5).run Try.prog w = .ok (.int .u8 0) w := by kernel_rfl
theorem inf5 : (Try.prog.info? 5).map (fun i => (i.zero, i.size, i.bytes)) = some (some (.int .u8 0), 1, 1) := by kernel_rfl
theorem nums_one (ys : List Int) : ∀ v ∈ nums .u8 ys, v.oneCell' = true := by
  intro v hv; unfold nums at hv; rw [List.mem_map] at hv; obtain ⟨x, _, rfl⟩ := hv; rfl

/-- What comes out of a step: a slice that the call owns, with these bytes; what lay below B stands as it was. -/
def Out (B : Nat) (w0 : World) (ys : List Int) (e : Ending) (w' : World) : Prop :=
  ∃ g cap, e = .returned (.slice (some ⟨g, 0, none⟩) ys.length cap) ∧ w'.ownsRow B 5 1 (.slice (some ⟨g, 0, none⟩) ys.length cap) ys.length (nums .u8 ys) ∧ Below B w0 w'

/-- The bytes that are put in: none, or cells of another block. -/
def Src8 (w : World) (g : Nat) (v : Value) (zs : List Int) : Prop :=
  ∃ A c, v = .slice A zs.length c ∧ (0 < zs.length → ∃ ad : Addr, A = some ad ∧ ad.block ≠ g ∧ ∀ j u, (nums .u8 zs)[j]? = some u → w.cell? (ad.add j) = some u)

theorem add_block (a : Addr) (n : Nat) : (a.add n).block = a.block := by unfold Addr.add; split <;> rfl
theorem add_none (a : Addr) : a.add 0 = a := by simp [Addr.add]

theorem shape_of_cell {w : World} {a : Addr} {v : Value} (h : w.cell? a = some v) : ∃ t k, w.shape? a.block = some (t, k) ∧ k ≠ 0 := by
  unfold World.cell? at h
  split at h
  · rename_i cs t m e
    simp at h
    have hlt := (Array.getElem?_eq_some_iff.1 h.2).1
    refine ⟨t, cs.size, ?_, by omega⟩
    unfold World.shape?
    rw [e]
  · cases h

theorem overlaps_ours {w : World} {g : Nat} {cur : List Value} (hr : RowAt w g cur) (hk : cur.length ≠ 0) {ad : Addr} (hne : ad.block ≠ g) {v : Value} (hv : w.cell? ad = some v) (o la ca lb cb : Nat) :
    (callFunc 98 #[.slice (some ad) la ca, .slice (some ⟨g, o, none⟩) lb cb]).run Try.prog w = .ok (.value (.bool false)) w := by
  obtain ⟨t, k, hs, hk0⟩ := shape_of_cell hv
  rw [run_callFunc_extern Try.func98 (by kernel_rfl) (by kernel_rfl) (by kernel_rfl) (e := Extern.SlicesOverlaps.overlaps #[72, 72] #[4]) (by kernel_rfl),
    run_overlaps2 w 72 4 5 Try.underlying72 1 sz5 ad ⟨g, o, none⟩ la ca lb cb hne t 5 k cur.length hs hr.shape hk0 hk (.inr ⟨hr.frozen o, hr.frozen cur.length⟩)]
  rfl
theorem overlaps_ours' {w : World} {g : Nat} {cur : List Value} (hr : RowAt w g cur) (hk : cur.length ≠ 0) {ad : Addr} (hne : ad.block ≠ g) {v : Value} (hv : w.cell? ad = some v) (o la ca lb cb : Nat) :
    (callFunc 98 #[.slice (some ⟨g, o, none⟩) la ca, .slice (some ad) lb cb]).run Try.prog w = .ok (.value (.bool false)) w := by
  obtain ⟨t, k, hs, hk0⟩ := shape_of_cell hv
  rw [run_callFunc_extern Try.func98 (by kernel_rfl) (by kernel_rfl) (by kernel_rfl) (e := Extern.SlicesOverlaps.overlaps #[72, 72] #[4]) (by kernel_rfl),
    run_overlaps2 w 72 4 5 Try.underlying72 1 sz5 ⟨g, o, none⟩ ad la ca lb cb (Ne.symm hne) 5 t cur.length k hr.shape hs hk hk0 (.inl ⟨hr.frozen o, hr.frozen cur.length⟩)]
  rfl

set_option maxHeartbeats 4000000 in
set_option maxRecDepth 100000 in
theorem ins_none (A : Option Addr) (g n cap c3 i : Nat) (w : World) (hi : i ≤ n) (hnc : n ≤ cap) (h63 : cap ≤ 9223372036854775807) :
    Calls Try.prog 97 #[.slice (some ⟨g, 0, none⟩) n cap, .int .i64 i, .slice A 0 c3] w fun e w' => e = .returned (.slice (some ⟨g, 0, none⟩) n cap) ∧ w = w' := by
  go_enter Try.func97, Try.ntmps97
  by_cases hci : cap = i
  · go_wp2
    go_ret
    exact ⟨rfl, rfl⟩
  · go_wp2
    go_ret
    exact ⟨rfl, rfl⟩

set_option maxHeartbeats 4000000 in
set_option maxRecDepth 100000 in
/-- at the end, with room -/
theorem ins_end_room (g n cap c3 : Nat) (ad : Addr) (cur : List Value) (zs : List Int) (w : World) (hr : RowAt w g cur) (hcl : cur.length = cap) (hm : 0 < zs.length) (hroom : n + zs.length ≤ cap) (h63 : cap ≤ 9223372036854775807)
    (hvs : ∀ j u, (nums .u8 zs)[j]? = some u → w.cell? (ad.add j) = some u) :
    Calls Try.prog 97 #[.slice (some ⟨g, 0, none⟩) n cap, .int .i64 n, .slice (some ad) zs.length c3] w fun e w' => e = .returned (.slice (some ⟨g, 0, none⟩) (n + zs.length) cap) ∧ w' = w.setCells g n (nums .u8 zs) := by
  have hz1 : ¬ ((zs.length : Int) = 0) := by omega
  obtain ⟨i0, hi0, h0, h1, h2⟩ := info_parts inf5
  have hrun : ∀ ty, (Builtin.append_ #[72, 72] ty #[.slice (some ⟨g, 0, none⟩) n cap, .slice (some ad) zs.length c3]).run Try.prog w = .ok (.slice (some ⟨g, 0, none⟩) (n + zs.length) cap) (w.setCells g n (nums .u8 zs)) := fun ty => by
    have h := run_append_room_cells (P := Try.prog) w 72 ty 5 i0 Try.underlying72 hi0 g 0 n cap ad zs.length c3 (nums .u8 zs) (by rw [nums_length, h1]; omega) (fun j u hj => by exact hvs j u hj) (nums_one zs) hroom
      (fun j hj => by rw [h1]; rw [nums_length] at hj; exact hr.isSome (by omega)) (fun j hj => hr.frozen _)
    rw [h1] at h
    simpa using h
  go_enter Try.func97, Try.ntmps97
  by_cases hci : cap = n
  · exfalso; omega
  · go_wp2_with (at_builtin; refine Lib.wpList_append_run _ rfl _ _ _ _ rfl _ _ rfl rfl _ _ (hrun _) ?_)
    go_ret
    exact ⟨rfl, rfl⟩

set_option maxHeartbeats 4000000 in
set_option maxRecDepth 100000 in
/-- at the end, no room -/
theorem ins_end_grow (g n cap c3 : Nat) (ad : Addr) (cur : List Value) (zs : List Int) (w : World) (hr : RowAt w g cur) (hcl : cur.length = cap) (hn : n ≤ cap) (hm : 0 < zs.length) (hroom : cap < n + zs.length) (hbig : n + zs.length ≤ 140737488355328) (h63 : cap ≤ 9223372036854775807)
    (hvs : ∀ j u, (nums .u8 zs)[j]? = some u → w.cell? (ad.add j) = some u) :
    Calls Try.prog 97 #[.slice (some ⟨g, 0, none⟩) n cap, .int .i64 n, .slice (some ad) zs.length c3] w fun e w' =>
      e = .returned (.slice (some ⟨w.heap.size, 0, none⟩) (n + zs.length) (grownCap w (n + zs.length) cap 5)) ∧
      w' = w.drew.alloc (.cells ((cur.take n ++ nums .u8 zs).toArray ++ Builtin.zeroCells (Value.int .u8 0).cells (grownCap w (n + zs.length) cap 5 - (n + zs.length))) 5) := by
  have hz1 : ¬ ((zs.length : Int) = 0) := by omega
  obtain ⟨i0, hi0, h0, h1, h2⟩ := info_parts inf5
  have hold : (Builtin.firstCells i0.size n (.slice (some ⟨g, 0, none⟩) n cap)).run Try.prog w.drew = .ok (cur.take n).toArray w.drew := by
    rw [h1]
    exact run_firstCells_some w.drew 1 n ⟨g, 0, none⟩ n cap (cur.take n) (by rw [List.length_take]; omega) (fun j v hj => by
      rw [Addr.add_lit, Nat.zero_add]
      rw [List.getElem?_take] at hj
      split at hj
      · exact hr.cell hj
      · cases hj)
  have hsrc : Src Try.prog i0.size 72 (.slice (some ad) zs.length c3) zs.length (nums .u8 zs) w := by
    rw [h1]
    exact Src.ofSlice w Try.underlying72 ad zs.length c3 (nums .u8 zs) (by rw [nums_length]; omega) (fun j u hj => by exact hvs j u hj) (nums_one zs)
  have hrun : ∀ ty, (Builtin.append_ #[72, 72] ty #[.slice (some ⟨g, 0, none⟩) n cap, .slice (some ad) zs.length c3]).run Try.prog w = _ := fun ty =>
    run_append_grow_src w 72 72 ty 5 i0 _ Try.underlying72 hi0 h0 (some ⟨g, 0, none⟩) n cap (cur.take n) hold _ zs.length (nums .u8 zs) hsrc hroom (by omega) (by rw [h2]; exact growslice_fits hroom (by omega))
  go_enter Try.func97, Try.ntmps97
  by_cases hci : cap = n
  · subst hci
    go_wp2_with (at_builtin; refine Lib.wpList_append_run _ rfl _ _ _ _ rfl _ _ rfl rfl _ _ (hrun _) ?_)
    go_ret
    exact ⟨rfl, rfl⟩
  · go_wp2_with (at_builtin; refine Lib.wpList_append_run _ rfl _ _ _ _ rfl _ _ rfl rfl _ _ (hrun _) ?_)
    go_ret
    exact ⟨rfl, rfl⟩

set_option maxHeartbeats 4000000 in
set_option maxRecDepth 100000 in
/-- ahead of the end, with room: in place -/
theorem ins_shift (g n cap i c3 : Nat) (ad : Addr) (cur : List Value) (zs : List Int) (w : World) (hr : RowAt w g cur) (hcl : cur.length = cap) (hi : i < n) (hm : 0 < zs.length) (hroom : n + zs.length ≤ cap) (h63 : cap ≤ 9223372036854775807) (hvb : ad.block ≠ g)
    (h1c : ∀ v ∈ cur.take n, v.oneCell' = true)
    (hvs : ∀ j u, (nums .u8 zs)[j]? = some u → w.cell? (ad.add j) = some u) :
    Calls Try.prog 97 #[.slice (some ⟨g, 0, none⟩) n cap, .int .i64 i, .slice (some ad) zs.length c3] w fun e w' =>
      e = .returned (.slice (some ⟨g, 0, none⟩) (n + zs.length) cap) ∧ w' = (w.drew.setCells g (i + zs.length) ((cur.take n).drop i)).setCells g i (nums .u8 zs) := by
  obtain ⟨m, hmm⟩ : ∃ m, m = zs.length := ⟨_, rfl⟩
  obtain ⟨vs, hvv⟩ : ∃ vs, vs = nums .u8 zs := ⟨_, rfl⟩
  have hvl : vs.length = m := by rw [hvv, nums_length, hmm]
  have h1v : ∀ v ∈ vs, v.oneCell' = true := by rw [hvv]; exact nums_one zs
  rw [← hvv] at hvs ⊢
  rw [← hmm] at hm hroom ⊢
  clear hmm hvv
  obtain ⟨mid, hmid⟩ : ∃ mid, mid = (cur.take n).drop i := ⟨_, rfl⟩
  have hdl : mid.length = n - i := by rw [hmid, List.length_drop, List.length_take]; omega
  have hmc : ∀ j v, mid[j]? = some v → w.cell? ⟨g, i + j, none⟩ = some v := fun j v hj => by
    rw [hmid, List.getElem?_drop, List.getElem?_take] at hj
    split at hj
    · exact hr.cell hj
    · cases hj
  have h1m : ∀ v ∈ mid, v.oneCell' = true := fun v hv => h1c v (by rw [hmid] at hv; exact List.mem_of_mem_drop hv)
  rw [← hmid]
  clear hmid
  have hv0 : ∃ v, w.cell? ad = some v := by
    have := hvs 0 _ (List.getElem?_eq_getElem (by omega))
    exact ⟨_, by rw [add_none] at this; exact this⟩
  obtain ⟨v0, hv0⟩ := hv0
  have hz1 : ¬ ((m : Int) = 0) := by omega
  have hz2 : ¬ ((i : Int) = (n : Int)) := by omega
  have hsz : (Try.prog.info? 5).map (·.size) = some 1 := by
    obtain ⟨i0, hi0, h0, h1, h2⟩ := info_parts inf5
    rw [hi0]; simp [h1]
  have hov : ∀ lb cb, (callFunc 98 #[.slice (some ad) m c3, .slice (some ⟨g, i + m, none⟩) lb cb]).run Try.prog w = .ok (.value (.bool false)) w := fun lb cb =>
    overlaps_ours hr (by omega) hvb hv0 _ _ _ _ _
  have hw1 : IntKind.i64.wrap ((i : Int) + (m : Int)) = (i : Int) + (m : Int) := by rw [IntKind.wrap_i64]; omega
  have hb1 : (0 : Int) ≤ (i : Int) + (m : Int) := by omega
  have hin : i ≤ n := by omega
  have htn : ((i : Int) + (m : Int)).toNat = i + m := by omega
  have hb2 : ¬ (cap = i + m) := by omega
  have hb3 : (i : Int) ≤ (n : Int) + (m : Int) := by omega
  have hb4 : ¬ (cap = i) := by omega
  have hcp1 : ∀ ty dc sc, (Builtin.copy_ #[72, 72] ty #[.slice (some ⟨g, i + m, none⟩) (n + m - (i + m)) dc, .slice (some ⟨g, i, none⟩) (n + m - i) sc]).run Try.prog w.drew = .ok (goInt mid.length) (w.drew.setCells g (i + m) mid) := fun ty dc sc =>
    run_copy_cells w.drew _ _ ty 5 g (i + m) (n + m - (i + m)) dc ⟨g, i, none⟩ (n + m - i) sc mid Try.underlying72 hsz (by rw [hdl]; simp only [Nat.min_def]; split <;> omega)
      (fun j v hj => by rw [Addr.add_lit]; exact hmc j v hj)
      (fun j hj => hr.isSome (by omega)) (fun j hj => hr.frozen _) h1m
  have hr1 : RowAt (w.drew.setCells g (i + m) mid) g (splice cur (i + m) mid) := RowAt.setCells mid (w := w.drew) (i + m) hr (by omega)
  have hl1 : (splice cur (i + m) mid).length = cap := by rw [length_splice _ _ _ (by omega), hcl]
  have ho1 : ∀ x, x.block = ad.block → (w.drew.setCells g (i + m) mid).cell? x = w.cell? x := fun x hx =>
    World.cell?_of_block (w := w.drew) (by rw [hx]; exact heap_setCells_other hvb _ _ _)
  obtain ⟨W1, hW1⟩ : ∃ W1, W1 = w.drew.setCells g (i + m) mid := ⟨_, rfl⟩
  rw [← hW1] at hcp1 hr1 ho1
  have hcp2 : ∀ (W : World), (∀ x, W.cell? x = W1.cell? x) → (∀ x, W.frozen? x = W1.frozen? x) → ∀ ty dc, (Builtin.copy_ #[72, 72] ty #[.slice (some ⟨g, i, none⟩) (n + m - i) dc, .slice (some ad) m c3]).run Try.prog W = .ok (goInt vs.length) (W.setCells g i vs) := fun W hWc hWf ty dc =>
    run_copy_cells W _ _ ty 5 g i (n + m - i) dc ad m c3 vs Try.underlying72 hsz (by rw [hvl]; simp only [Nat.min_def]; split <;> omega)
      (fun j v hj => by rw [hWc, ho1 _ (add_block _ _)]; exact hvs j v hj)
      (fun j hj => by rw [hWc]; exact hr1.isSome (by omega)) (fun j hj => by rw [hWf]; exact hr1.frozen _) h1v
  go_enter Try.func97, Try.ntmps97
  go_wp2_with (simp only [hov])
  go_region_law (refine step_copy_runI rfl _ _ 72 72 rfl _ _ (by simp [Act.eval, Act.put]) (by simp [Act.eval, Act.put]) (hcp1 _ _ _) ?_)
  go_wp2_with (at_builtin; refine wpList_copy_runI _ rfl _ _ 72 72 rfl _ _ rfl rfl (hcp2 _ (fun _ => rfl) (fun _ => rfl) _ _) ?_)
  go_ret
  first | exact ⟨rfl, rfl⟩ | exact ⟨rfl, by rw [hW1]⟩

set_option maxHeartbeats 4000000 in
set_option maxRecDepth 100000 in
/-- ahead of the end, no room: a new row -/
theorem ins_grow (g n cap i c3 : Nat) (ad : Addr) (cur : List Value) (zs : List Int) (w : World) (hr : RowAt w g cur) (hcl : cur.length = cap) (hi : i < n) (hn : n ≤ cap) (hm : 0 < zs.length) (hroom : cap < n + zs.length) (hbig : n + zs.length ≤ 140737488355328) (h63 : cap ≤ 9223372036854775807)
    (h1c : ∀ v ∈ cur.take n, v.oneCell' = true)
    (hvs : ∀ j u, (nums .u8 zs)[j]? = some u → w.cell? (ad.add j) = some u) :
    Calls Try.prog 97 #[.slice (some ⟨g, 0, none⟩) n cap, .int .i64 i, .slice (some ad) zs.length c3] w fun e w' =>
      e = .returned (.slice (some ⟨w.heap.size, 0, none⟩) (n + zs.length) (grownCap w (n + zs.length) cap 5)) ∧
      w' = (((w.alloc (.cells ((cur.take i).toArray ++ Builtin.zeroCells (Value.int .u8 0).cells (n + zs.length - i) ++ Builtin.zeroCells (Value.int .u8 0).cells (grownCap w (n + zs.length) cap 5 - (n + zs.length))) 5)).drew.setCells w.heap.size i (nums .u8 zs)).drew).setCells w.heap.size (i + zs.length) ((cur.take n).drop i) := by
  obtain ⟨m, hmm⟩ : ∃ m, m = zs.length := ⟨_, rfl⟩
  obtain ⟨vs, hvv⟩ : ∃ vs, vs = nums .u8 zs := ⟨_, rfl⟩
  have hvl : vs.length = m := by rw [hvv, nums_length, hmm]
  have h1v : ∀ v ∈ vs, v.oneCell' = true := by rw [hvv]; exact nums_one zs
  rw [← hvv] at hvs ⊢
  rw [← hmm] at hm hroom hbig ⊢
  clear hmm hvv
  obtain ⟨mid, hmid⟩ : ∃ mid, mid = (cur.take n).drop i := ⟨_, rfl⟩
  have hdl : mid.length = n - i := by rw [hmid, List.length_drop, List.length_take]; omega
  have hmc : ∀ j v, mid[j]? = some v → w.cell? ⟨g, i + j, none⟩ = some v := fun j v hj => by
    rw [hmid, List.getElem?_drop, List.getElem?_take] at hj
    split at hj
    · exact hr.cell hj
    · cases hj
  have h1m : ∀ v ∈ mid, v.oneCell' = true := fun v hv => h1c v (by rw [hmid] at hv; exact List.mem_of_mem_drop hv)
  rw [← hmid]
  clear hmid
  obtain ⟨i0, hi0, hz0, hzs, hzb⟩ := info_parts inf5
  have hz1 : ¬ ((m : Int) = 0) := by omega
  have hz2 : ¬ ((i : Int) = (n : Int)) := by omega
  have hz3 : (cap : Int) < (n : Int) + (m : Int) := by omega
  have hsz : (Try.prog.info? 5).map (·.size) = some 1 := by rw [hi0]; simp [hzs]
  have hbw : g < w.heap.size := hr.lt
  have hvw : ad.block < w.heap.size := by
    have := World.block_lt_of_cell? w _ (hvs 0 _ (List.getElem?_eq_getElem (by omega)))
    rwa [add_block] at this
  have hkk : (n : Int) + (m : Int) - (i : Int) = ((n + m - i : Nat) : Int) := by omega
  have hik : i + (n + m - i) = n + m := by omega
  have hold : (Builtin.firstCells i0.size i (.slice (some ⟨g, 0, none⟩) i cap)).run Try.prog w.drew = .ok (cur.take i).toArray w.drew := by
    rw [hzs]
    exact run_firstCells_some w.drew 1 i ⟨g, 0, none⟩ i cap (cur.take i) (by rw [List.length_take]; omega) (fun j v hj => by
      rw [Addr.add_lit, Nat.zero_add]
      rw [List.getElem?_take] at hj
      split at hj
      · exact hr.cell hj
      · cases hj)
  have hrz : ∀ ty, (Builtin.append_ #[72, 3] ty #[.slice (some ⟨g, 0, none⟩) i cap, .int .i64 ((n : Int) + (m : Int) - (i : Int))]).run Try.prog w =
      .ok (.slice (some ⟨w.heap.size, 0, none⟩) (n + m) (grownCap w (n + m) cap 5)) (w.drew.alloc (.cells ((cur.take i).toArray ++ Builtin.zeroCells (Value.int .u8 0).cells (n + m - i) ++ Builtin.zeroCells (Value.int .u8 0).cells (grownCap w (n + m) cap 5 - (n + m))) 5)) := fun ty => by
    have h := Lib.run_append_grow_zeros w 72 3 ty 5 i0 _ .i64 .i64 Try.underlying72 Try.underlying3 hi0 hz0 (some ⟨g, 0, none⟩) i cap (cur.take i) hold (n + m - i) (by omega) (by omega) (by omega) (by omega) (by rw [hzb]; omega) (by rw [hzb, hik]; exact growslice_fits hroom (by omega))
    rw [hik] at h
    rw [hkk]
    exact h
  obtain ⟨G, hG⟩ : ∃ G, G = grownCap w (n + m) cap 5 := ⟨_, rfl⟩
  obtain ⟨ROW, hROW⟩ : ∃ ROW : Array Value, ROW = (cur.take i).toArray ++ Builtin.zeroCells (Value.int .u8 0).cells (n + m - i) ++ Builtin.zeroCells (Value.int .u8 0).cells (G - (n + m)) := ⟨_, rfl⟩
  rw [← hG] at hrz ⊢
  rw [← hROW] at hrz ⊢
  have hRl : n + m ≤ ROW.size := by
    rw [hROW]
    simp [Builtin.zeroCells, Value.cells]
    omega
  obtain ⟨W1, hW1⟩ : ∃ W1, W1 = w.drew.alloc (.cells ROW 5) := ⟨_, rfl⟩
  rw [← hW1] at hrz
  have hN : ∀ j, j < n + m → (W1.cell? ⟨w.heap.size, j, none⟩).isSome = true := fun j hj => by
    rw [hW1, World.cell?_alloc_at (w := w.drew) ROW _ w.heap.size j rfl, Array.getElem?_eq_getElem (by omega)]; rfl
  have hNf : ∀ j, W1.frozen? ⟨w.heap.size, j, none⟩ = false := fun j => by rw [hW1]; exact World.frozen?_alloc_at (w := w.drew) ROW _ w.heap.size j rfl
  have hOb : ∀ j v, w.cell? ⟨g, j, none⟩ = some v → W1.cell? ⟨g, j, none⟩ = some v := fun j v h => by rw [hW1, World.cell?_alloc_past (w := w.drew) _ g j hbw]; exact h
  have hOv : ∀ j v, w.cell? (ad.add j) = some v → W1.cell? (ad.add j) = some v := fun j v h => by rw [hW1]; exact Lib.cell?_alloc_some (W := w.drew) _ h
  have hcpA : ∀ (W : World), (∀ x, W.cell? x = W1.cell? x) → (∀ x, W.frozen? x = W1.frozen? x) → ∀ ty dc, (Builtin.copy_ #[72, 72] ty #[.slice (some ⟨w.heap.size, i, none⟩) (n + m - i) dc, .slice (some ad) m c3]).run Try.prog W = .ok (goInt vs.length) (W.setCells w.heap.size i vs) := fun W hWc hWf ty dc =>
    run_copy_cells W _ _ ty 5 w.heap.size i (n + m - i) dc ad m c3 vs Try.underlying72 hsz (by rw [hvl]; simp only [Nat.min_def]; split <;> omega)
      (fun j v hj => by rw [hWc]; exact hOv _ v (hvs j v hj))
      (fun j hj => by rw [hWc]; exact hN _ (by omega)) (fun j hj => by rw [hWf]; exact hNf _) h1v
  have hGn : n + m ≤ G := by rw [hG]; exact grownCap_ge w _ _ _
  have hG63 : G ≤ 9223372036854775807 := by
    have := grownCap_le_maxLen w (n + m) cap 5 (by unfold maxLen; omega)
    rw [← hG] at this
    unfold maxLen at this
    omega
  have hGi : ¬ (G = i) := by omega
  have hGim : ¬ (G = i + m) := by omega
  have hci : ¬ (cap = i) := by omega
  have hbN : g ≠ w.heap.size := by omega
  have hcpB : ∀ (W : World), (∀ x, W.cell? x = (W1.setCells w.heap.size i vs).cell? x) → (∀ x, W.frozen? x = (W1.setCells w.heap.size i vs).frozen? x) → ∀ ty dc sc, (Builtin.copy_ #[72, 72] ty #[.slice (some ⟨w.heap.size, i + m, none⟩) (n + m - (i + m)) dc, .slice (some ⟨g, i, none⟩) (n - i) sc]).run Try.prog W = .ok (goInt mid.length) (W.setCells w.heap.size (i + m) mid) := fun W hWc hWf ty dc sc =>
    run_copy_cells W _ _ ty 5 w.heap.size (i + m) (n + m - (i + m)) dc ⟨g, i, none⟩ (n - i) sc mid Try.underlying72 hsz (by rw [hdl]; simp only [Nat.min_def]; split <;> omega)
      (fun j v hj => by
        rw [Addr.add_lit, hWc, World.cell?_setCells_out _ _ _ _ _ (fun h _ => absurd h hbN)]
        exact hOb _ v (hmc j v hj))
      (fun j hj => by rw [hWc]; exact isSome_setCells _ _ _ _ (fun t ht => hN _ (by omega)) _ (hN _ (by omega)))
      (fun j hj => by rw [hWf, World.frozen?_setCells]; exact hNf _) h1m
  subst hW1
  have hE1 : ∀ x, ((w.alloc (.cells ROW 5)).drew).cell? x = (w.drew.alloc (.cells ROW 5)).cell? x := fun x => rfl
  have hE2 : ∀ x, ((w.alloc (.cells ROW 5)).drew).frozen? x = (w.drew.alloc (.cells ROW 5)).frozen? x := fun x => rfl
  have hF1 : ∀ x, (((w.alloc (.cells ROW 5)).drew.setCells w.heap.size i vs).drew).cell? x = ((w.drew.alloc (.cells ROW 5)).setCells w.heap.size i vs).cell? x := fun x => rfl
  have hF2 : ∀ x, (((w.alloc (.cells ROW 5)).drew.setCells w.heap.size i vs).drew).frozen? x = ((w.drew.alloc (.cells ROW 5)).setCells w.heap.size i vs).frozen? x := fun x => rfl
  have hw1 : IntKind.i64.wrap ((i : Int) + (m : Int)) = (i : Int) + (m : Int) := by rw [IntKind.wrap_i64]; omega
  have hb1 : (0 : Int) ≤ (i : Int) + (m : Int) := by omega
  have hin : i ≤ n := by omega
  have htn : ((i : Int) + (m : Int)).toNat = i + m := by omega
  have hb3 : (i : Int) ≤ (n : Int) := by omega
  clear hkk hik hold hROW hG hRl
  go_enter Try.func97, Try.ntmps97
  go_wp2_with (first
    | (at_builtin; refine Lib.wpList_append_run _ rfl _ _ _ _ rfl _ _ rfl rfl _ _ (hrz _) ?_)
    | (at_builtin; refine wpList_copy_runI _ rfl _ _ 72 72 rfl _ _ rfl rfl (hcpA _ hE1 hE2 _ _) ?_)
    | (at_builtin; refine wpList_copy_runI _ rfl _ _ 72 72 rfl _ _ rfl rfl (hcpB _ (fun _ => rfl) (fun _ => rfl) _ _ _) ?_))
  go_region_law (refine step_copy_runI rfl _ _ 72 72 rfl (.slice (some ⟨w.heap.size, i + m, none⟩) (n + m - (i + m)) (G - (i + m))) (.slice (some ⟨g, i, none⟩) (n - i) (cap - i)) (by simp [Act.eval, Act.put]) (by simp [Act.eval, Act.put]) (hcpB _ hF1 hF2 3 (G - (i + m)) (cap - i)) ?_)
  go_wp2
  go_ret
  exact ⟨rfl, rfl⟩

end Go.Proofs.Ytjljkcbopkldbaa
