/-
  slices.Replace at bytes: a row that the call itself made, and what is put in lies in another block: what comes out is owned by the call, and holds the text with the bytes put in. Condition: fewer than 2^46 bytes in all.
-/
import Derived.Test.YtjljkcbopkldbaaRepb
namespace Go.Proofs.Ytjljkcbopkldbaa
open Go.RowKit Go.Proofs.YtjljkcbopkldbaaW.PrintWords Go.Proofs.YtjljkcbopkldbaaW.PrintLast Go.Proofs.YtjljkcbopkldbaaW.PrintMore
set_option linter.unusedVariables false
set_option linter.unusedSimpArgs false

theorem nums_app (xs ys : List Int) : nums .u8 (xs ++ ys) = nums .u8 xs ++ nums .u8 ys := by unfold nums; rw [List.map_append]
theorem nums_take (xs : List Int) (n : Nat) : nums .u8 (xs.take n) = (nums .u8 xs).take n := by unfold nums; rw [List.map_take]
theorem nums_drop (xs : List Int) (n : Nat) : nums .u8 (xs.drop n) = (nums .u8 xs).drop n := by unfold nums; rw [List.map_drop]

theorem one_take {cur : List Value} {n : Nat} {xs : List Int} (h : cur.take n = nums .u8 xs) : ∀ v ∈ cur.take n, v.oneCell' = true := by rw [h]; exact nums_one xs

/-- The bytes that are put in, as Src8 says them -/
theorem rd_of {w : World} {g : Nat} {A : Option Addr} {zs : List Int} (h : 0 < zs.length → ∃ ad : Addr, A = some ad ∧ ad.block ≠ g ∧ ∀ j u, (nums .u8 zs)[j]? = some u → w.cell? (ad.add j) = some u) : Rd w g A (nums .u8 zs) := fun hl => h (by rw [nums_length] at hl; exact hl)

theorem splice_take (cur : List Value) (i : Nat) (vs : List Value) (h : i + vs.length ≤ cur.length) : (splice cur i vs).take (i + vs.length) = cur.take i ++ vs := by
  unfold splice
  rw [← List.append_assoc, List.take_left' (by simp; omega)]
theorem splice_take_le (cur : List Value) (i k : Nat) (vs : List Value) (h : i + vs.length ≤ cur.length) (hk : k ≤ i) : (splice cur i vs).take k = cur.take k := by
  unfold splice
  rw [List.take_append_of_le_length (by simp; omega), List.take_take, Nat.min_eq_left hk]

theorem out_room {w w' : World} {B g n' cap : Nat} {cur' : List Value} {ys : List Int} {w0 : World} (hB : B ≤ g) (h : RowAt w' g cur') (hc : cur'.length = cap) (hcm : cap ≤ maxLen) (hn : n' = ys.length) (hle : n' ≤ cap) (ht : cur'.take n' = nums .u8 ys) (hb : Below B w0 w') :
    Out B w0 ys (.returned (.slice (some ⟨g, 0, none⟩) n' cap)) w' := by
  subst hn
  exact ⟨g, cap, rfl, h.owns hB hc hle hcm ht, hb⟩

theorem row_size {w : World} {g : Nat} {cur : List Value} (h : RowAt w g cur) : g < w.heap.size := h.lt

theorem insert_out {B g n cap i c3 : Nat} {A : Option Addr} {cur : List Value} {xs zs : List Int} {w0 w : World} (hB : B ≤ g) (hb : Below B w0 w) (hr : RowAt w g cur) (hcl : cur.length = cap) (hn : n ≤ cap) (hcm : cap ≤ maxLen) (hx : cur.take n = nums .u8 xs) (hxl : xs.length = n)
    (hi : i ≤ n) (hbig : n + zs.length ≤ 140737488355328) (hs : 0 < zs.length → ∃ ad : Addr, A = some ad ∧ ad.block ≠ g ∧ ∀ j u, (nums .u8 zs)[j]? = some u → w.cell? (ad.add j) = some u) :
    Calls Try.prog 97 #[.slice (some ⟨g, 0, none⟩) n cap, .int .i64 i, .slice A zs.length c3] w (Out B w0 (xs.take i ++ zs ++ xs.drop i)) := by
  have h63 : cap ≤ 9223372036854775807 := by unfold maxLen at hcm; omega
  have hBw : B ≤ w.heap.size := by have := hr.lt; omega
  have hyl : (xs.take i ++ zs ++ xs.drop i).length = n + zs.length := by simp [hxl]; omega
  have hti : cur.take i = nums .u8 (xs.take i) := by
    rw [nums_take, ← hx, List.take_take, Nat.min_eq_left hi]
  have htd : (cur.take n).drop i = nums .u8 (xs.drop i) := by rw [hx, nums_drop]
  by_cases hm : zs.length = 0
  · have hz : zs = [] := List.length_eq_zero_iff.1 hm
    subst hz
    refine (ins_none A g n cap c3 i w hi hn h63).mono ?_
    rintro e w' ⟨rfl, rfl⟩
    refine out_room (w := w) hB hr hcl hcm (by simp at hyl ⊢; omega) hn ?_ hb
    rw [hx]; simp
  obtain ⟨ad, rfl, hvb, hvs⟩ := hs (Nat.pos_of_ne_zero hm)
  clear hs
  by_cases hin : i = n
  · subst hin
    have hd : xs.drop i = [] := List.drop_eq_nil_of_le (by omega)
    by_cases hroom : i + zs.length ≤ cap
    · refine (ins_end_room g i cap c3 ad cur zs w hr hcl (by omega) hroom h63 hvs).mono ?_
      rintro e w' ⟨rfl, rfl⟩
      refine out_room (w := w) hB (RowAt.setCells _ i hr (by rw [nums_length]; omega)) (by rw [length_splice _ _ _ (by rw [nums_length]; omega)]; exact hcl) hcm hyl.symm hroom ?_ (below_setCells hB _ _ hb)
      have := splice_take cur i (nums .u8 zs) (by rw [nums_length]; omega)
      rw [nums_length] at this
      rw [this, hti, hd, List.append_nil, nums_app]
    · refine (ins_end_grow g i cap c3 ad cur zs w hr hcl hn (by omega) (by omega) hbig h63 hvs).mono ?_
      rintro e w' ⟨rfl, rfl⟩
      have hG := grownCap_ge w (i + zs.length) cap 5
      refine out_room (w := w) (cur' := cur.take i ++ nums .u8 zs ++ List.replicate (grownCap w (i + zs.length) cap 5 - (i + zs.length)) (.int .u8 0)) hBw ?_ (by simp [nums_length]; omega) (grownCap_le_maxLen _ _ _ _ (by unfold maxLen; omega)) hyl.symm hG ?_ ?_
      · unfold RowAt
        rw [show Builtin.zeroCells (Value.int .u8 0).cells (grownCap w (i + zs.length) cap 5 - (i + zs.length)) = (List.replicate (grownCap w (i + zs.length) cap 5 - (i + zs.length)) (Value.int .u8 0)).toArray by
          apply Array.ext
          · simp [Builtin.zeroCells, Value.cells]
          · intro t h1 h2; simp [Builtin.zeroCells, Value.cells, Nat.mod_one]]
        rw [List.append_toArray]
        exact blk_new w.drew _
      · rw [List.take_left' (by simp [nums_length]; omega), hti, hd, List.append_nil, nums_app]
      · exact Below.alloc (Below.drew hb) (by exact hBw) _
  · by_cases hroom : n + zs.length ≤ cap
    · refine (ins_shift g n cap i c3 ad cur zs w hr hcl (by omega) (by omega) hroom h63 hvb (one_take hx) hvs).mono ?_
      rintro e w' ⟨rfl, rfl⟩
      have hdl : ((cur.take n).drop i).length = n - i := by simp; omega
      have h1 : RowAt (w.drew.setCells g (i + zs.length) ((cur.take n).drop i)) g _ := RowAt.setCells (w := w.drew) _ (i + zs.length) hr (by rw [hdl]; omega)
      have hl1 : (splice cur (i + zs.length) ((cur.take n).drop i)).length = cap := by rw [length_splice _ _ _ (by rw [hdl]; omega)]; exact hcl
      have h2 := RowAt.setCells (nums .u8 zs) i h1 (by rw [nums_length]; omega)
      refine out_room (w := w) hB h2 (by rw [length_splice _ _ _ (by rw [nums_length]; omega)]; exact hl1) hcm hyl.symm hroom ?_ (below_setCells hB _ _ (below_setCells hB _ _ hb.drew))
      have h3 : (splice cur (i + zs.length) ((cur.take n).drop i)).take i = cur.take i := splice_take_le _ _ _ _ (by rw [hdl]; omega) (by omega)
      have h4 : (splice cur (i + zs.length) ((cur.take n).drop i)).drop (i + zs.length) = ((cur.take n).drop i) ++ cur.drop (i + zs.length + (n - i)) := by
        unfold splice
        rw [hdl, List.drop_left' (by simp; omega)]
      have h5 : splice (splice cur (i + zs.length) ((cur.take n).drop i)) i (nums .u8 zs) = cur.take i ++ nums .u8 zs ++ ((cur.take n).drop i) ++ cur.drop (i + zs.length + (n - i)) := by
        rw [show splice (splice cur (i + zs.length) ((cur.take n).drop i)) i (nums .u8 zs) = (splice cur (i + zs.length) ((cur.take n).drop i)).take i ++ (nums .u8 zs ++ (splice cur (i + zs.length) ((cur.take n).drop i)).drop (i + (nums .u8 zs).length)) from rfl, h3, nums_length, h4]
        simp only [List.append_assoc]
      rw [h5, List.take_left' (by simp [nums_length]; omega), htd, hti, nums_app, nums_app]
    · refine (ins_grow g n cap i c3 ad cur zs w hr hcl (by omega) hn (by omega) (by omega) hbig h63 (one_take hx) hvs).mono ?_
      rintro e w' ⟨rfl, rfl⟩
      have hG := grownCap_ge w (n + zs.length) cap 5
      obtain ⟨G, hGe⟩ : ∃ G, G = grownCap w (n + zs.length) cap 5 := ⟨_, rfl⟩
      have hGm := grownCap_le_maxLen w (n + zs.length) cap 5 (by unfold maxLen; omega)
      rw [← hGe] at hG hGm ⊢
      have hdl : ((cur.take n).drop i).length = n - i := by simp; omega
      have hzc : ∀ k, Builtin.zeroCells (Value.int .u8 0).cells k = (List.replicate k (Value.int .u8 0)).toArray := fun k => by
        apply Array.ext
        · simp [Builtin.zeroCells, Value.cells]
        · intro t h1 h2
          simp [Builtin.zeroCells, Value.cells, Nat.mod_one]
      obtain ⟨ROW, hROW⟩ : ∃ ROW : List Value, ROW = cur.take i ++ (List.replicate (n + zs.length - i) (Value.int .u8 0) ++ List.replicate (G - (n + zs.length)) (Value.int .u8 0)) := ⟨_, rfl⟩
      have hRl : ROW.length = G := by rw [hROW]; simp; omega
      have hcs : (cur.take i).toArray ++ Builtin.zeroCells (Value.int .u8 0).cells (n + zs.length - i) ++ Builtin.zeroCells (Value.int .u8 0).cells (G - (n + zs.length)) = ROW.toArray := by
        rw [hzc, hzc, hROW]; simp only [List.append_toArray, List.append_assoc]
      rw [hcs]
      have h0 : RowAt (w.alloc (.cells ROW.toArray 5)) w.heap.size ROW := blk_new w _
      have h1 := RowAt.setCells (w := (w.alloc (.cells ROW.toArray 5)).drew) (nums .u8 zs) i h0 (by rw [nums_length]; omega)
      have hl1 : (splice ROW i (nums .u8 zs)).length = G := by rw [length_splice _ _ _ (by rw [nums_length]; omega)]; exact hRl
      have h2 := RowAt.setCells (w := ((w.alloc (.cells ROW.toArray 5)).drew.setCells w.heap.size i (nums .u8 zs)).drew) ((cur.take n).drop i) (i + zs.length) h1 (by rw [hdl]; omega)
      refine out_room (w := w) hBw h2 (by rw [length_splice _ _ _ (by rw [hdl]; omega)]; exact hl1) hGm hyl.symm hG ?_ ?_
      · have h3 := splice_take (splice ROW i (nums .u8 zs)) (i + zs.length) ((cur.take n).drop i) (by rw [hdl]; omega)
        rw [hdl, show i + zs.length + (n - i) = n + zs.length by omega] at h3
        have h4 := splice_take ROW i (nums .u8 zs) (by rw [nums_length]; omega)
        rw [nums_length] at h4
        rw [h3, h4, hROW, List.take_left' (by simp; omega), htd, hti, nums_app, nums_app]
      · exact below_setCells hBw _ _ (Below.drew (below_setCells hBw _ _ (Below.drew (hb.alloc hBw _))))

set_option maxHeartbeats 1000000 in
set_option maxRecDepth 100000 in
theorem rep_eq {g n cap i c3 : Nat} {A : Option Addr} {zs : List Int} {w : World} (hn : n ≤ cap) (h63 : cap ≤ 9223372036854775807) (hj : i ≤ n) (Q : Ending → World → Prop) (hQ : ∀ e w', Q e w' → ∃ v, e = .returned v)
    (hi : Calls Try.prog 97 #[.slice (some ⟨g, 0, none⟩) n cap, .int .i64 i, .slice A zs.length c3] w Q) :
    Calls Try.prog 82 #[.slice (some ⟨g, 0, none⟩) n cap, .int .i64 i, .int .i64 i, .slice A zs.length c3] w Q := by
  have hic : i ≤ cap := by omega
  go_enter Try.func82, Try.ntmps82
  by_cases hci : cap = i
  · subst hci
    go_wp2_with (go_at_call 97; (with_reducible refine Calls.mono hi ?_); intro e w' ho; obtain ⟨v, rfl⟩ := hQ e w' ho)
    exact ho
  · go_wp2_with (go_at_call 97; (with_reducible refine Calls.mono hi ?_); intro e w' ho; obtain ⟨v, rfl⟩ := hQ e w' ho)
    exact ho


theorem replace_out {B g n cap i j c3 : Nat} {A : Option Addr} {cur : List Value} {xs zs : List Int} {w0 w : World} (hB : B ≤ g) (hb : Below B w0 w) (hr : RowAt w g cur) (hcl : cur.length = cap) (hn : n ≤ cap) (hcm : cap ≤ maxLen) (hx : cur.take n = nums .u8 xs) (hxl : xs.length = n)
    (hij : i ≤ j) (hj : j ≤ n) (hbig : i + zs.length + (n - j) ≤ 140737488355328) (hs : 0 < zs.length → ∃ ad : Addr, A = some ad ∧ ad.block ≠ g ∧ ∀ j u, (nums .u8 zs)[j]? = some u → w.cell? (ad.add j) = some u) :
    Calls Try.prog 82 #[.slice (some ⟨g, 0, none⟩) n cap, .int .i64 i, .int .i64 j, .slice A zs.length c3] w (Out B w0 (xs.take i ++ zs ++ xs.drop j)) := by
  have h63 : cap ≤ 9223372036854775807 := by unfold maxLen at hcm; omega
  have hBw : B ≤ w.heap.size := by have := hr.lt; omega
  have hyl : (xs.take i ++ zs ++ xs.drop j).length = i + zs.length + (n - j) := by simp [hxl]; omega
  have hti : cur.take i = nums .u8 (xs.take i) := by
    rw [nums_take, ← hx, List.take_take, Nat.min_eq_left (by omega)]
  have htd : (cur.take n).drop j = nums .u8 (xs.drop j) := by rw [hx, nums_drop]
  have hdl : ((cur.take n).drop j).length = n - j := by clear hs; simp; omega
  by_cases he : i = j
  · subst he
    have hbig' : n + zs.length ≤ 140737488355328 := by clear hs; omega
    have hi := insert_out (c3 := c3) hB hb hr hcl hn hcm hx hxl hj hbig' hs
    exact rep_eq hn h63 hj _ (fun e w' h => by obtain ⟨g', cap', rfl, _⟩ := h; exact ⟨_, rfl⟩) hi
  have hrd := rd_of hs
  have hvbw : Rd w w.heap.size A (nums .u8 zs) := fun hl => by
    obtain ⟨ad, e, hne, hc⟩ := hrd hl
    refine ⟨ad, e, ?_, hc⟩
    have := World.block_lt_of_cell? w _ (hc 0 _ (List.getElem?_eq_getElem hl))
    rw [add_block] at this
    exact Nat.ne_of_lt this
  clear hs
  by_cases hjn : j = n
  · subst hjn
    have hd : xs.drop j = [] := List.drop_eq_nil_of_le (by omega)
    by_cases hroom : i + zs.length ≤ cap
    · refine (rep_end_room g j cap i c3 A cur zs w hr hcl (by omega) hroom hn h63 hrd).mono ?_
      rintro e w' ⟨rfl, rfl⟩
      have h1 := RowAt.setCells (nums .u8 zs) i hr (by rw [nums_length]; omega)
      have hl1 : (splice cur i (nums .u8 zs)).length = cap := by rw [length_splice _ _ _ (by rw [nums_length]; omega)]; exact hcl
      have h2 := RowAt.setCells (List.replicate (j - (i + zs.length)) (.int .u8 0)) (i + zs.length) h1 (by rw [List.length_replicate]; omega)
      refine out_room (w := w) hB h2 (by rw [length_splice _ _ _ (by rw [List.length_replicate]; omega)]; exact hl1) hcm (by omega) hroom ?_ (below_setCells hB _ _ (below_setCells hB _ _ hb))
      rw [splice_take_le _ _ _ _ (by rw [List.length_replicate]; omega) (Nat.le_refl _)]
      have := splice_take cur i (nums .u8 zs) (by rw [nums_length]; omega)
      rw [nums_length] at this
      rw [this, hti, hd, List.append_nil, nums_app]
    · refine (rep_end_grow g j cap i c3 A cur zs w hr hcl (by omega) (by omega) hn h63 (by omega) hrd).mono ?_
      rintro e w' ⟨rfl, rfl⟩
      have hG := grownCap_ge w (i + zs.length) cap 5
      refine out_room (w := w) (cur' := cur.take i ++ nums .u8 zs ++ List.replicate (grownCap w (i + zs.length) cap 5 - (i + zs.length)) (.int .u8 0)) hBw ?_ (by simp [nums_length]; omega) (grownCap_le_maxLen _ _ _ _ (by unfold maxLen; clear hyl; omega)) (by omega) hG ?_ ?_
      · unfold RowAt
        rw [show Builtin.zeroCells (Value.int .u8 0).cells (grownCap w (i + zs.length) cap 5 - (i + zs.length)) = (List.replicate (grownCap w (i + zs.length) cap 5 - (i + zs.length)) (Value.int .u8 0)).toArray by
          apply Array.ext
          · simp [Builtin.zeroCells, Value.cells]
          · intro t h1 h2; simp [Builtin.zeroCells, Value.cells, Nat.mod_one]]
        rw [List.append_toArray]
        exact blk_new w.drew _
      · rw [List.take_left' (by simp [nums_length]; omega), hti, hd, List.append_nil, nums_app]
      · exact Below.alloc (Below.drew hb) (by exact hBw) _
  by_cases hgrow : cap < i + zs.length + (n - j)
  · refine (rep_grow g n cap i j c3 A cur zs w hr hcl (by omega) (by omega) hn hgrow hbig h63 (one_take hx) hvbw).mono ?_
    rintro e w' ⟨G, cur', rfl, h1, h2, h3, h4, h5, h6⟩
    refine out_room (w := w) hBw h1 h2 h3 hyl.symm h4 ?_ (hb.trans (h6.mono hBw))
    rw [h5, htd, hti, nums_app, nums_app]
  by_cases hnar : i + zs.length ≤ j
  · refine (rep_narrow g n cap i j c3 A cur zs w hr hcl (by omega) (by omega) hnar hn h63 (one_take hx) hrd).mono ?_
    rintro e w' ⟨rfl, q, rfl⟩
    have h1 := RowAt.setCells (w := w.drewN q) (nums .u8 zs) i hr (by rw [nums_length]; omega)
    have hl1 : (splice cur i (nums .u8 zs)).length = cap := by rw [length_splice _ _ _ (by rw [nums_length]; omega)]; exact hcl
    have h2 := RowAt.setCells ((cur.take n).drop j) (i + zs.length) h1 (by rw [hdl]; omega)
    have hl2 : (splice (splice cur i (nums .u8 zs)) (i + zs.length) ((cur.take n).drop j)).length = cap := by rw [length_splice _ _ _ (by rw [hdl]; omega)]; exact hl1
    have h3 := RowAt.setCells (List.replicate (n - (i + zs.length + (n - j))) (.int .u8 0)) (i + zs.length + (n - j)) h2 (by rw [List.length_replicate]; omega)
    refine out_room (w := w) hB h3 (by rw [length_splice _ _ _ (by rw [List.length_replicate]; omega)]; exact hl2) hcm hyl.symm (by omega) ?_ (below_setCells hB _ _ (below_setCells hB _ _ (below_setCells hB _ _ (pw_below_drewN hb q))))
    rw [splice_take_le _ _ _ _ (by rw [List.length_replicate]; omega) (Nat.le_refl _)]
    have h4 := splice_take (splice cur i (nums .u8 zs)) (i + zs.length) ((cur.take n).drop j) (by rw [hdl]; omega)
    have h5 := splice_take cur i (nums .u8 zs) (by rw [nums_length]; omega)
    rw [nums_length] at h5
    rw [hdl] at h4
    rw [h4, h5, hti, htd, nums_app, nums_app]
  · have hm : 0 < zs.length := by omega
    obtain ⟨ad, rfl, hvb, hvs⟩ := hrd (by rw [nums_length]; exact hm)
    refine (rep_wide g n cap i j c3 ad cur zs w hr hcl (by omega) (by omega) hm (by omega) (by omega) hn h63 hvb (one_take hx) hvs).mono ?_
    rintro e w' ⟨rfl, q, rfl⟩
    have h1 := RowAt.setCells (w := w.drewN q) ((cur.take n).drop j) (i + zs.length) hr (by rw [hdl]; omega)
    have hl1 : (splice cur (i + zs.length) ((cur.take n).drop j)).length = cap := by rw [length_splice _ _ _ (by rw [hdl]; omega)]; exact hcl
    have h2 := RowAt.setCells (nums .u8 zs) i h1 (by rw [nums_length]; omega)
    refine out_room (w := w) hB h2 (by rw [length_splice _ _ _ (by rw [nums_length]; omega)]; exact hl1) hcm hyl.symm (by omega) ?_ (below_setCells hB _ _ (below_setCells hB _ _ (pw_below_drewN hb q)))
    have h3 : (splice cur (i + zs.length) ((cur.take n).drop j)).take i = cur.take i := splice_take_le _ _ _ _ (by rw [hdl]; omega) (by omega)
    have h4 : (splice cur (i + zs.length) ((cur.take n).drop j)).drop (i + zs.length) = ((cur.take n).drop j) ++ cur.drop (i + zs.length + (n - j)) := by
      unfold splice
      rw [hdl, List.drop_left' (by simp; omega)]
    have h5 : splice (splice cur (i + zs.length) ((cur.take n).drop j)) i (nums .u8 zs) = cur.take i ++ nums .u8 zs ++ ((cur.take n).drop j) ++ cur.drop (i + zs.length + (n - j)) := by
      rw [show splice (splice cur (i + zs.length) ((cur.take n).drop j)) i (nums .u8 zs) = (splice cur (i + zs.length) ((cur.take n).drop j)).take i ++ (nums .u8 zs ++ (splice cur (i + zs.length) ((cur.take n).drop j)).drop (i + (nums .u8 zs).length)) from rfl, h3, nums_length, h4]
      simp only [List.append_assoc]
    rw [h5, List.take_left' (by simp [nums_length]; omega), htd, hti, nums_app, nums_app]

end Go.Proofs.Ytjljkcbopkldbaa
