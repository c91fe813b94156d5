/-
  slices.Replace at bytes, the other ways: to the end, and where a new row is made. Condition: fewer than 2^46 bytes in all.
-/
import Derived.Test.YtjljkcbopkldbaaRep
import Derived.Deep.Upon
namespace Go.Proofs.Ytjljkcbopkldbaa
open Go.RowKit Go.Proofs.YtjljkcbopkldbaaW.PrintWords Go.Proofs.YtjljkcbopkldbaaW.PrintLast Go.Proofs.YtjljkcbopkldbaaW.PrintMore
set_option linter.unusedVariables false
set_option linter.unusedSimpArgs false

theorem append8_room (W : World) (h g n cap : Nat) (A : Option Addr) (m c ty : Nat) (vs : List Value) (hm : vs.length = m) (hroom : n + m ≤ cap) (h1 : ∀ v ∈ vs, v.oneCell' = true) (hs : Rd W h A vs)
    (hc : ∀ k, k < m → (W.cell? ⟨g, n + k, none⟩).isSome = true) (hf : ∀ k, k < m → W.frozen? ⟨g, n + k, none⟩ = false) :
    (Builtin.append_ #[72, 72] ty #[.slice (some ⟨g, 0, none⟩) n cap, .slice A m c]).run Try.prog W = .ok (.slice (some ⟨g, 0, none⟩) (n + m) cap) (W.setCells g n vs) := by
  obtain ⟨i0, hi0, hz0, hzs, hzb⟩ := info_parts inf5
  by_cases h0 : m = 0
  · have hv : vs = [] := by rw [h0] at hm; exact List.length_eq_zero_iff.1 hm
    subst hv; subst h0
    have hn : (loadCells (A.getD default) 0).run Try.prog W = .ok #[] W := by simpa using run_loadCells_list (P := Try.prog) W (A.getD default) [] (by simp)
    cases A <;> simp [Builtin.append_, run_underlying Try.underlying72, sizeOf, typeInfo, hi0, hzs, Builtin.lenOf, Builtin.firstCells, storeCells, World.setCells, show n ≤ cap by omega] at hn ⊢ <;> simp [hn, storeCells]
  · obtain ⟨ad, e, hne, hcs⟩ := hs (by omega)
    subst e
    have := run_append_room_cells (P := Try.prog) W 72 ty 5 i0 Try.underlying72 hi0 g 0 n cap ad m c vs (by rw [hzs]; omega) (fun k v hk => by exact hcs k v hk) h1 hroom
      (fun k hk => by rw [hzs]; simpa using hc k (by omega)) (fun k hk => by rw [hzs]; simpa using hf k (by omega))
    rw [hzs] at this
    simpa using this

theorem append8_grow (W : World) (h g n cap : Nat) (A : Option Addr) (m c ty : Nat) (cur vs : List Value) (hr : RowAt W g cur) (hn : n ≤ cur.length) (hm : vs.length = m) (hroom : cap < n + m) (hnc : n ≤ cap) (hbig : n + m ≤ 140737488355328) (h1 : ∀ v ∈ vs, v.oneCell' = true) (hs : Rd W h A vs) :
    (Builtin.append_ #[72, 72] ty #[.slice (some ⟨g, 0, none⟩) n cap, .slice A m c]).run Try.prog W = .ok (.slice (some ⟨W.heap.size, 0, none⟩) (n + m) (grownCap W (n + m) cap 5))
      (W.drew.alloc (.cells ((cur.take n ++ vs).toArray ++ Builtin.zeroCells (Value.int .u8 0).cells (grownCap W (n + m) cap 5 - (n + m))) 5)) := by
  obtain ⟨i0, hi0, hz0, hzs, hzb⟩ := info_parts inf5
  obtain ⟨ad, e, hne, hcs⟩ := hs (by omega)
  subst e
  have hold : (Builtin.firstCells i0.size n (.slice (some ⟨g, 0, none⟩) n cap)).run Try.prog W.drew = .ok (cur.take n).toArray W.drew := by
    rw [hzs]
    exact run_firstCells_some W.drew 1 n ⟨g, 0, none⟩ n cap (cur.take n) (by rw [List.length_take]; omega) (fun j v hj => by
      rw [Addr.add_lit, Nat.zero_add]
      rw [List.getElem?_take] at hj
      split at hj
      · exact hr.cell hj
      · cases hj)
  have hsrc : Src Try.prog i0.size 72 (.slice (some ad) m c) m vs W := by
    rw [hzs]
    exact Src.ofSlice W Try.underlying72 ad m c vs (by omega) (fun j u hj => by exact hcs j u hj) h1
  exact run_append_grow_src W 72 72 ty 5 i0 _ Try.underlying72 hi0 hz0 (some ⟨g, 0, none⟩) n cap (cur.take n) hold _ m vs hsrc hroom (by omega) (by rw [hzb]; exact growslice_fits hroom (by omega))

set_option maxHeartbeats 4000000 in
set_option maxRecDepth 100000 in
/-- to the end, with room -/
theorem rep_end_room (g n cap i c3 : Nat) (A : Option Addr) (cur : List Value) (zs : List Int) (w : World) (hr : RowAt w g cur) (hcl : cur.length = cap) (hij : i < n) (hw : i + zs.length ≤ cap) (hn : n ≤ cap) (h63 : cap ≤ 9223372036854775807)
    (hvs : Rd w g A (nums .u8 zs)) :
    Calls Try.prog 82 #[.slice (some ⟨g, 0, none⟩) n cap, .int .i64 i, .int .i64 n, .slice A zs.length c3] w fun e w' =>
      e = .returned (.slice (some ⟨g, 0, none⟩) (i + zs.length) cap) ∧
      w' = (w.setCells g i (nums .u8 zs)).setCells g (i + zs.length) (List.replicate (n - (i + zs.length)) (.int .u8 0)) := by
  obtain ⟨m, hmm⟩ : ∃ m, m = zs.length := ⟨_, rfl⟩
  obtain ⟨vs, hvv⟩ : ∃ vs, vs = nums .u8 zs := ⟨_, rfl⟩
  have hvl : vs.length = m := by rw [hvv, nums_length, hmm]
  have h1v : ∀ v ∈ vs, v.oneCell' = true := by rw [hvv]; exact nums_one zs
  rw [← hvv] at hvs ⊢
  rw [← hmm] at hw ⊢
  clear hmm hvv
  have z1 : ¬ ((i : Int) = (n : Int)) := by omega
  have b2 : ¬ (cap = i) := by omega
  have b3 : IntKind.i64.wrap ((i : Int) + (m : Int)) = (i : Int) + (m : Int) := by rw [IntKind.wrap_i64]; omega
  have b7 : i ≤ n := by omega
  have happ : ∀ ty, (Builtin.append_ #[72, 72] ty #[.slice (some ⟨g, 0, none⟩) i cap, .slice A m c3]).run Try.prog w = _ := fun ty =>
    append8_room w g g i cap A m c3 ty vs hvl hw h1v hvs (fun k hk => hr.isSome (by omega)) (fun k hk => hr.frozen _)
  have hr1 : RowAt (w.setCells g i vs) g (splice cur i vs) := RowAt.setCells vs i hr (by omega)
  have hl1 : (splice cur i vs).length = cap := by rw [length_splice _ _ _ (by omega), hcl]
  obtain ⟨W1, hW1⟩ : ∃ W1, W1 = w.setCells g i vs := ⟨_, rfl⟩
  rw [← hW1] at happ hr1 ⊢
  have hclr : ∀ c ty, (Builtin.clear_ #[72] ty #[.slice (some ⟨g, i + m, none⟩) (n - (i + m)) c]).run Try.prog W1 = .ok (.tuple #[]) (W1.setCells g (i + m) (List.replicate (n - (i + m)) (.int .u8 0))) := fun c ty =>
    clear8 _ _ g (i + m) (n - (i + m)) c ty (fun _ => rfl) (fun k hk => hr1.isSome (by omega)) (fun k hk => hr1.frozen _)
  clear hvs hr1 hW1
  have htn : ((i : Int) + (m : Int)).toNat = i + m := by omega
  by_cases hlt : i + m < n
  · have b4 : (i : Int) + (m : Int) < (n : Int) := by omega
    have b5 : ¬ (cap = i + m) := by omega
    have b6 : i + m ≤ n := by omega
    go_enter Try.func82, Try.ntmps82
    go_wp2_with (at_builtin; refine Lib.wpList_append_run _ rfl _ _ _ _ rfl _ _ rfl rfl _ _ (happ _) ?_)
    go_ret
    exact ⟨rfl, rfl⟩
  · have b4 : ¬ ((i : Int) + (m : Int) < (n : Int)) := by omega
    go_enter Try.func82, Try.ntmps82
    go_wp2_with (at_builtin; refine Lib.wpList_append_run _ rfl _ _ _ _ rfl _ _ rfl rfl _ _ (happ _) ?_)
    go_ret
    refine ⟨rfl, ?_⟩
    rw [show n - (i + m) = 0 by omega]
    rfl

set_option maxHeartbeats 4000000 in
set_option maxRecDepth 100000 in
/-- to the end, no room -/
theorem rep_end_grow (g n cap i c3 : Nat) (A : Option Addr) (cur : List Value) (zs : List Int) (w : World) (hr : RowAt w g cur) (hcl : cur.length = cap) (hij : i < n) (hw : cap < i + zs.length) (hn : n ≤ cap) (h63 : cap ≤ 9223372036854775807) (hbig : i + zs.length ≤ 140737488355328)
    (hvs : Rd w g A (nums .u8 zs)) :
    Calls Try.prog 82 #[.slice (some ⟨g, 0, none⟩) n cap, .int .i64 i, .int .i64 n, .slice A zs.length c3] w fun e w' =>
      e = .returned (.slice (some ⟨w.heap.size, 0, none⟩) (i + zs.length) (grownCap w (i + zs.length) cap 5)) ∧
      w' = w.drew.alloc (.cells ((cur.take i ++ nums .u8 zs).toArray ++ Builtin.zeroCells (Value.int .u8 0).cells (grownCap w (i + zs.length) cap 5 - (i + zs.length))) 5) := by
  obtain ⟨m, hmm⟩ : ∃ m, m = zs.length := ⟨_, rfl⟩
  obtain ⟨vs, hvv⟩ : ∃ vs, vs = nums .u8 zs := ⟨_, rfl⟩
  have hvl : vs.length = m := by rw [hvv, nums_length, hmm]
  have h1v : ∀ v ∈ vs, v.oneCell' = true := by rw [hvv]; exact nums_one zs
  rw [← hvv] at hvs ⊢
  rw [← hmm] at hw hbig ⊢
  clear hmm hvv
  have z1 : ¬ ((i : Int) = (n : Int)) := by omega
  have b2 : ¬ (cap = i) := by omega
  have b7 : i ≤ n := by omega
  have b4 : ¬ ((i : Int) + (m : Int) < (n : Int)) := by omega
  have happ : ∀ ty, (Builtin.append_ #[72, 72] ty #[.slice (some ⟨g, 0, none⟩) i cap, .slice A m c3]).run Try.prog w = _ := fun ty =>
    append8_grow w g g i cap A m c3 ty cur vs hr (by omega) hvl hw (by omega) (by omega) h1v hvs
  clear hvs
  go_enter Try.func82, Try.ntmps82
  go_wp2_with (at_builtin; refine Lib.wpList_append_run _ rfl _ _ _ _ rfl _ _ rfl rfl _ _ (happ _) ?_)
  go_ret
  exact ⟨rfl, rfl⟩

set_option maxHeartbeats 4000000 in
set_option maxRecDepth 100000 in
/-- in the middle, no room: a new row -/
theorem rep_grow (g n cap i j c3 : Nat) (A : Option Addr) (cur : List Value) (zs : List Int) (w : World) (hr : RowAt w g cur) (hcl : cur.length = cap) (hij : i < j) (hj : j < n) (hn : n ≤ cap) (hroom : cap < i + zs.length + (n - j)) (hbig : i + zs.length + (n - j) ≤ 140737488355328) (h63 : cap ≤ 9223372036854775807)
    (h1c : ∀ v ∈ cur.take n, v.oneCell' = true) (hvs : Rd w w.heap.size A (nums .u8 zs)) :
    Calls Try.prog 82 #[.slice (some ⟨g, 0, none⟩) n cap, .int .i64 i, .int .i64 j, .slice A zs.length c3] w fun e w' =>
      ∃ G cur', e = .returned (.slice (some ⟨w.heap.size, 0, none⟩) (i + zs.length + (n - j)) G) ∧ RowAt w' w.heap.size cur' ∧ cur'.length = G ∧ G ≤ maxLen ∧ i + zs.length + (n - j) ≤ G ∧ cur'.take (i + zs.length + (n - j)) = cur.take i ++ nums .u8 zs ++ (cur.take n).drop j ∧ Below w.heap.size w w' := by
  obtain ⟨m, hmm⟩ : ∃ m, m = zs.length := ⟨_, rfl⟩
  obtain ⟨vs, hvv⟩ : ∃ vs, vs = nums .u8 zs := ⟨_, rfl⟩
  have hvl : vs.length = m := by rw [hvv, nums_length, hmm]
  have h1v : ∀ v ∈ vs, v.oneCell' = true := by rw [hvv]; exact nums_one zs
  rw [← hvv] at hvs ⊢
  rw [← hmm] at hroom hbig ⊢
  clear hmm hvv
  obtain ⟨mid, hmid⟩ : ∃ mid, mid = (cur.take n).drop j := ⟨_, rfl⟩
  have hdl : mid.length = n - j := by rw [hmid, List.length_drop, List.length_take]; omega
  have hmc : ∀ k v, mid[k]? = some v → w.cell? ⟨g, j + k, none⟩ = some v := fun k v hk => by
    rw [hmid, List.getElem?_drop, List.getElem?_take] at hk
    split at hk
    · exact hr.cell hk
    · cases hk
  have h1m : ∀ v ∈ mid, v.oneCell' = true := fun v hv => h1c v (by rw [hmid] at hv; exact List.mem_of_mem_drop hv)
  rw [← hmid]
  clear hmid
  obtain ⟨tot, htot⟩ : ∃ tot, tot = i + m + (n - j) := ⟨_, rfl⟩
  rw [← htot] at hroom hbig ⊢
  obtain ⟨i0, hi0, hz0, hzs, hzb⟩ := info_parts inf5
  have hbw : g < w.heap.size := hr.lt
  have e1 : (i : Int) + (m : Int) + ((n - j : Nat) : Int) = (tot : Int) := by omega
  have z1 : ¬ ((i : Int) = (j : Int)) := by omega
  have z2 : ¬ ((j : Int) = (n : Int)) := by omega
  have z3 : (cap : Int) < (tot : Int) := by omega
  have b1 : ¬ (cap = j) := by omega
  have b2 : ¬ (cap = i) := by omega
  have b3 : IntKind.i64.wrap ((i : Int) + (m : Int)) = (i : Int) + (m : Int) := by rw [IntKind.wrap_i64]; omega
  have b4 : IntKind.i64.wrap ((i : Int) + (m : Int) + ((n - j : Nat) : Int)) = (tot : Int) := by rw [IntKind.wrap_i64]; omega
  have b8 : IntKind.i64.wrap (tot : Int) = (tot : Int) := by rw [IntKind.wrap_i64]; omega
  have b9 : IntKind.i64.wrap ((i : Int) + (m : Int) + ((n : Int) - (j : Int))) = (tot : Int) := by rw [IntKind.wrap_i64]; omega
  have e9 : (i : Int) + (m : Int) + ((n : Int) - (j : Int)) = (tot : Int) := by omega
  have b5 : j ≤ n := by omega
  have b6 : i ≤ cap := by omega
  have b7 : i ≤ n := by omega
  have htn : ((i : Int) + (m : Int)).toNat = i + m := by omega
  have b10 : (0 : Int) ≤ (i : Int) + (m : Int) := by omega
  have b13 : (i : Int) + (m : Int) ≤ (tot : Int) := by omega
  have b14 : (i : Int) ≤ (tot : Int) := by omega
  have b18 : IntKind.i64.wrap ((tot : Int) - (i : Int)) = (tot : Int) - (i : Int) := by rw [IntKind.wrap_i64]; omega
  have b19 : i ≤ tot := by omega
  have hkk : (tot : Int) - (i : Int) = ((tot - i : Nat) : Int) := by omega
  have hik : i + (tot - i) = tot := by omega
  have hold : ∀ q, (Builtin.firstCells i0.size i (.slice (some ⟨g, 0, none⟩) i cap)).run Try.prog (w.drewN q).drew = .ok (cur.take i).toArray (w.drewN q).drew := fun q => by
    rw [hzs]
    exact run_firstCells_some (w.drewN q).drew 1 i ⟨g, 0, none⟩ i cap (cur.take i) (by rw [List.length_take]; omega) (fun j v hj => by
      rw [Addr.add_lit, Nat.zero_add]
      rw [List.getElem?_take] at hj
      split at hj
      · exact hr.cell hj
      · cases hj)
  have hrz : ∀ q ty, (Builtin.append_ #[72, 3] ty #[.slice (some ⟨g, 0, none⟩) i cap, .int .i64 ((tot : Int) - (i : Int))]).run Try.prog (w.drewN q) =
      .ok (.slice (some ⟨w.heap.size, 0, none⟩) tot (grownCap (w.drewN q) tot cap 5)) ((w.alloc (.cells ((cur.take i).toArray ++ Builtin.zeroCells (Value.int .u8 0).cells (tot - i) ++ Builtin.zeroCells (Value.int .u8 0).cells (grownCap (w.drewN q) tot cap 5 - tot)) 5)).drewN (q + 1)) := fun q ty => by
    have h := Lib.run_append_grow_zeros (w.drewN q) 72 3 ty 5 i0 _ .i64 .i64 Try.underlying72 Try.underlying3 hi0 hz0 (some ⟨g, 0, none⟩) i cap (cur.take i) (hold q) (tot - i) (by omega) (by omega) (by omega) (by omega) (by rw [hzb]; omega) (by rw [hzb, hik]; exact growslice_fits hroom (by omega))
    rw [hik] at h
    rw [hkk]
    exact h
  obtain ⟨G, hG⟩ : ∃ G : Nat → Nat, G = fun q => grownCap (w.drewN q) tot cap 5 := ⟨_, rfl⟩
  obtain ⟨ROW, hROW⟩ : ∃ ROW : Nat → List Value, ROW = fun q => cur.take i ++ (List.replicate (tot - i) (Value.int .u8 0) ++ List.replicate (G q - tot) (Value.int .u8 0)) := ⟨_, rfl⟩
  have hzc : ∀ k, Builtin.zeroCells (Value.int .u8 0).cells k = (List.replicate k (Value.int .u8 0)).toArray := fun k => by
    apply Array.ext
    · simp [Builtin.zeroCells, Value.cells]
    · intro t h1 h2
      simp [Builtin.zeroCells, Value.cells, Nat.mod_one]
  have hrz' : ∀ q ty, (Builtin.append_ #[72, 3] ty #[.slice (some ⟨g, 0, none⟩) i cap, .int .i64 ((tot : Int) - (i : Int))]).run Try.prog (w.drewN q) =
      .ok (.slice (some ⟨w.heap.size, 0, none⟩) tot (G q)) ((w.alloc (.cells (ROW q).toArray 5)).drewN (q + 1)) := fun q ty => by
    rw [hrz q ty, hROW, hG, hzc, hzc]
    simp only [List.append_toArray, List.append_assoc]
  clear hrz
  have hRl : ∀ q, (ROW q).length = G q := fun q => by
    have := grownCap_ge (w.drewN q) tot cap 5
    rw [hROW, hG]
    simp
    omega
  have hGn : ∀ q, tot ≤ G q := fun q => by rw [hG]; exact grownCap_ge _ _ _ _
  have hGm : ∀ q, G q ≤ maxLen := fun q => by
    rw [hG]
    exact grownCap_le_maxLen (w.drewN q) tot cap 5 (by unfold maxLen; omega)
  have hG63 : ∀ q, G q ≤ 9223372036854775807 := fun q => by
    have := hGm q
    unfold maxLen at this
    omega
  have hGi : ∀ q, ¬ (G q = i) := fun q => by have := hGn q; omega
  have hGim : ∀ q, ¬ (G q = i + m) := fun q => by have := hGn q; omega
  have hbN : g ≠ w.heap.size := by omega
  have hrow : ∀ q, RowAt (w.alloc (.cells (ROW q).toArray 5)) w.heap.size (ROW q) := fun q => by
    exact blk_new w _
  have hOb : ∀ q (x : Addr) v, w.cell? x = some v → (w.alloc (.cells (ROW q).toArray 5)).cell? x = some v := fun q x v h => Lib.cell?_alloc_some _ h
  have hRd1 : ∀ q, Rd (w.alloc (.cells (ROW q).toArray 5)) w.heap.size A vs := fun q hl => by
    obtain ⟨ad, e, hne, hc⟩ := hvs hl
    exact ⟨ad, e, hne, fun j u hj => hOb _ _ _ (hc j u hj)⟩
  have hcpA : ∀ (q r : Nat), (Builtin.copy_ #[72, 72] 3 #[.slice (some ⟨w.heap.size, i, none⟩) (tot - i) (G q - i), .slice A m c3]).run Try.prog ((w.alloc (.cells (ROW q).toArray 5)).drewN r) = .ok (goInt vs.length) (((w.alloc (.cells (ROW q).toArray 5)).drewN r).setCells w.heap.size i vs) := fun q r =>
    copy8 _ w.heap.size w.heap.size i (tot - i) (G q - i) A m c3 3 vs hvl (by omega) h1v (hRd1 q) (fun k hk => (hrow q).isSome (by have := hRl q; have := hGn q; omega)) (fun k hk => (hrow q).frozen _)
  have hrow1 : ∀ q r, RowAt (((w.alloc (.cells (ROW q).toArray 5)).drewN r).setCells w.heap.size i vs) w.heap.size (splice (ROW q) i vs) := fun q r =>
    RowAt.setCells (w := (w.alloc (.cells (ROW q).toArray 5)).drewN r) vs i (hrow q) (by have := hRl q; have := hGn q; omega)
  have hRl1 : ∀ q, (splice (ROW q) i vs).length = G q := fun q => by rw [length_splice _ _ _ (by have := hRl q; have := hGn q; omega)]; exact hRl q
  have hcpB : ∀ (q r : Nat), (Builtin.copy_ #[72, 72] 3 #[.slice (some ⟨w.heap.size, i + m, none⟩) (tot - (i + m)) (G q - (i + m)), .slice (some ⟨g, j, none⟩) (n - j) (cap - j)]).run Try.prog (((w.alloc (.cells (ROW q).toArray 5)).drewN r).setCells w.heap.size i vs).drew = .ok (goInt mid.length) ((((w.alloc (.cells (ROW q).toArray 5)).drewN r).setCells w.heap.size i vs).drew.setCells w.heap.size (i + m) mid) := fun q r =>
    run_copy_cells _ _ _ 3 5 w.heap.size (i + m) (tot - (i + m)) (G q - (i + m)) ⟨g, j, none⟩ (n - j) (cap - j) mid Try.underlying72 hsz5 (by rw [hdl]; simp only [Nat.min_def]; split <;> omega)
      (fun k v hk => by
        rw [Addr.add_lit]
        change (((w.alloc (.cells (ROW q).toArray 5)).drewN r).setCells w.heap.size i vs).cell? _ = _
        rw [World.cell?_setCells_out _ _ _ _ _ (fun h _ => absurd h hbN)]
        exact hOb _ _ v (hmc k v hk))
      (fun k hk => (hrow1 q r).isSome (by have := hRl1 q; have := hGn q; omega))
      (fun k hk => (hrow1 q r).frozen _) h1m
  have hfin : ∀ q r, ∃ cur', RowAt ((((w.alloc (.cells (ROW q).toArray 5)).drewN r).setCells w.heap.size i vs).drew.setCells w.heap.size (i + m) mid) w.heap.size cur' ∧ cur'.length = G q ∧ cur'.take tot = cur.take i ++ vs ++ mid := fun q r => by
    have h1 := hRl q
    have h2 := hGn q
    have h3 := hRl1 q
    refine ⟨splice (splice (ROW q) i vs) (i + m) mid, RowAt.setCells (w := (((w.alloc (.cells (ROW q).toArray 5)).drewN r).setCells w.heap.size i vs).drew) mid (i + m) (hrow1 q r) (by omega), by rw [length_splice _ _ _ (by omega)]; exact h3, ?_⟩
    have h4 : (ROW q).take i = cur.take i := by rw [hROW]; exact List.take_left' (by simp; omega)
    have h5 : (splice (ROW q) i vs).take (i + m) = cur.take i ++ vs := by
      unfold splice
      rw [← List.append_assoc, List.take_left' (by rw [h4]; simp [hvl]; omega), h4]
    have h6 : (cur.take i ++ vs).length = i + m := by simp [hvl]; omega
    have h7 : splice (splice (ROW q) i vs) (i + m) mid = (splice (ROW q) i vs).take (i + m) ++ (mid ++ (splice (ROW q) i vs).drop (i + m + mid.length)) := rfl
    rw [h7, h5, ← List.append_assoc, List.take_left' (by rw [List.length_append, h6]; omega)]
  have hbelow : ∀ q r, Below w.heap.size w ((((w.alloc (.cells (ROW q).toArray 5)).drewN r).setCells w.heap.size i vs).drew.setCells w.heap.size (i + m) mid) := fun q r =>
    have h1 : Below w.heap.size w ((w.alloc (.cells (ROW q).toArray 5)).drewN r) := pw_below_drewN ((Below.refl w.heap.size w).alloc (Nat.le_refl _) _) r
    have h2 : Below w.heap.size w (((w.alloc (.cells (ROW q).toArray 5)).drewN r).setCells w.heap.size i vs).drew := (below_setCells (Nat.le_refl _) vs i h1).drew
    below_setCells (Nat.le_refl _) mid (i + m) h2
  clear hkk hik hold hROW hG hvs hRd1 hmc hzc
  have HT := Aside0.mk htot
  clear htot
  go_enter Try.func82, Try.ntmps82
  go_wp2_with fail
  go_quiet (fail)
  go_wp2_with (first | (at_builtin; refine Lib.wpList_append_run _ rfl _ _ _ _ rfl _ _ rfl rfl _ _ (hrz' _ _) ?_))
  go_region
  go_wp2
  go_ret
  obtain ⟨cur', h1, h2, h3⟩ := hfin nq (nq + 1)
  exact ⟨_, _, rfl, h1, h2, hGm nq, hGn nq, h3, hbelow nq (nq + 1)⟩

end Go.Proofs.Ytjljkcbopkldbaa
