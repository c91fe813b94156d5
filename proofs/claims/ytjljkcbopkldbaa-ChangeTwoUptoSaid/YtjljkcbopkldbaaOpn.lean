/-
  Arguments as they are read: whatever reads as data of a type is laid as that type's kind says; how large it is. No condition.
-/
import Derived.Test.YtjljkcbopkldbaaRows
import Derived.Test.YtjljkcbopkldbaaWMore
import Derived.Deep.Slices
import Derived.OpenShut
namespace Go.Proofs.Ytjljkcbopkldbaa.Opn
open Go.ChangeShapes Go.WideShapes Go.RowKit Go.Deep Go.Proofs.YtjljkcbopkldbaaW.PrintWords Go.Proofs.YtjljkcbopkldbaaW.PrintLast Go.Proofs.YtjljkcbopkldbaaW.PrintMore
set_option linter.unusedVariables false
set_option linter.unusedSimpArgs false

/-- 'good': what each value of the type is; 'bulk': what it takes of the bulk; 'small': what the form's own reach says of it. -/
structure Opens (P : Program) {α : Type} (t : TypeId) (d : Kd α) (good : α → Prop) (bulk : α → Nat) (small : α → Prop) : Prop where
  out : ∀ {H : Type} {enc : TypeId × Value → H} {w : World} {spare : Nat → Bool} {held : Bool} {fuel : Nat} {cs : List Value} {x : DataW H × List MemPlace},
    DataW.trod enc P w 0 spare held fuel t cs = some x → ∃ v : α, d.K w v cs ∧ good v ∧ bulk v ≤ Rows.uptoBulk x.1 ∧ ((∀ n ∈ x.1.weights P t, n ≤ reachBytes) → small v)

variable {P : Program}
theorem opens_int {t : TypeId} {k : IntKind} (ht : P.underlying t = some (.int k)) : Opens P t (Kd.int k) (fun n => (Lit.int k n).wf = true) (fun _ => 1) (fun _ => True) := by
  constructor
  intro H enc w spare held fuel cs x h
  obtain ⟨n, rfl, rfl, hw⟩ := DataW.trod_int ht h
  exact ⟨n, rfl, hw, by simp [Rows.uptoBulk], fun _ => trivial⟩
theorem opens_bool {t : TypeId} (ht : P.underlying t = some .bool) : Opens P t Kd.bool (fun _ => True) (fun _ => 1) (fun _ => True) := by
  constructor
  intro H enc w spare held fuel cs x h
  obtain ⟨n, rfl, rfl⟩ := DataW.trod_bool ht h
  exact ⟨n, rfl, trivial, by simp [Rows.uptoBulk], fun _ => trivial⟩
theorem opens_string {t : TypeId} (ht : P.underlying t = some .string) : Opens P t Kd.string (fun s => s.size ≤ maxLen) (fun s => s.size + 1) (fun s => s.size ≤ reachBytes) := by
  constructor
  intro H enc w spare held fuel cs x h
  obtain ⟨s, rfl, rfl, hs⟩ := DataW.trod_string ht h
  exact ⟨s, rfl, hs, by simp only [Rows.uptoBulk, Array.length_toList]; exact Nat.le_refl _, fun h => by have := h s.data.toList.length (by simp [DataW.weights]); rw [Array.length_toList] at this; exact this⟩

def sumOf {α : Type} (bulk : α → Nat) (xs : List α) : Nat := (xs.map bulk).sum
theorem bulkAll_map {H : Type} {α : Type} (bulk : α → Nat) (f : Nat → α) (D : Nat → DataW H) : ∀ (n : Nat), (∀ i, i < n → bulk (f i) ≤ Rows.uptoBulk (D i)) → ((List.range n).map fun i => bulk (f i)).sum ≤ Rows.uptoBulkAll ((List.range n).map D) := by
  have app : ∀ (a b : List (DataW H)), Rows.uptoBulkAll (a ++ b) = Rows.uptoBulkAll a + Rows.uptoBulkAll b := by
    intro a b
    induction a with
    | nil => simp [Rows.uptoBulkAll]
    | cons x r ih => simp only [List.cons_append, Rows.uptoBulkAll, ih]; omega
  intro n
  induction n with
  | zero => intro _; simp
  | succ n ih =>
    intro h
    have h1 := ih (fun i hi => h i (by omega))
    have h2 := h n (by omega)
    rw [List.range_succ, List.map_append, List.map_append, app, List.sum_append]
    simp only [List.map_cons, List.map_nil, List.sum_cons, List.sum_nil, Rows.uptoBulkAll]
    omega
theorem weightsAll_mem {H : Type} (e : TypeId) : ∀ (l : List (DataW H)) (d : DataW H), d ∈ l → ∀ n ∈ d.weights P e, n ∈ DataW.weightsAll P e l
  | [], d, h, n, hn => by simp at h
  | x :: r, d, h, n, hn => by
    unfold DataW.weightsAll
    rcases List.mem_cons.1 h with rfl | h
    · exact List.mem_append_left _ hn
    · exact List.mem_append_right _ (weightsAll_mem e r d h n hn)

theorem opens_slice {α : Type} {t e : TypeId} {d : Kd α} {good : α → Prop} {bulk : α → Nat} {small : α → Prop} (ht : P.underlying t = some (.slice e)) (hsz : d.sz = P.cellsOf e) (hp : 0 < d.sz) (ho : Opens P e d good bulk small) :
    Opens P t (Kd.slice e d) (fun xs => ∀ x ∈ xs, good x) (fun xs => sumOf bulk xs + 1) (fun xs => xs.length * P.bytesOf e ≤ reachBytes ∧ ∀ x ∈ xs, small x) := by
  constructor
  intro H enc w spare held fuel cs x h
  rcases open_slice ht h with ⟨rfl, rfl⟩ | ⟨a, len, cap, m, n, D, Pl, rfl, hb, hl, hm, hmm, rfl, hx⟩
  · refine ⟨[], ⟨none, 0, rfl, Nat.le_refl _, rfl, by simp, fun h => absurd h (by simp)⟩, by simp, by simp [sumOf, Rows.uptoBulk], fun _ => ⟨by simp, by simp⟩⟩
  · have hlm : len ≤ m := by rw [hmm]; split <;> omega
    have hall : ∀ i, i < len → ∃ v : α, (∃ cs', cs'.length = d.sz ∧ d.K w v cs' ∧ ∀ j u, cs'[j]? = some u → w.cell? (a.add (i * d.sz + j)) = some u) ∧ good v ∧ bulk v ≤ Rows.uptoBulk (D i) ∧ ((∀ n ∈ (D i).weights P e, n ≤ reachBytes) → small v) := fun i hi => by
      obtain ⟨cs', h1, h2⟩ := hx i (by omega)
      obtain ⟨v, hK, hg, hbk, hsm⟩ := ho.out h2
      obtain ⟨_, hlen, hc⟩ := World.cells?_some h1
      refine ⟨v, ⟨cs', d.K_len hK, hK, fun j u hj => ?_⟩, hg, hbk, hsm⟩
      have hj' : j < P.cellsOf e := by rw [← hlen]; exact (List.getElem?_eq_some_iff.1 hj).1
      have := hc j hj'
      rw [Go.Deep.add_add, ← hsz] at this
      rw [this, hj]
    rcases Nat.eq_zero_or_pos len with h0 | h0
    · subst h0
      refine ⟨[], ⟨some a, cap, rfl, hl, rfl, by simp, fun h => absurd h (by simp)⟩, by simp, ?_, fun _ => ⟨by simp, by simp⟩⟩
      simp [sumOf, Rows.uptoBulk]
    · obtain ⟨v0, _⟩ := hall 0 h0
      haveI : Inhabited α := ⟨v0⟩
      obtain ⟨f, hf⟩ := choose_lt hall
      have hlen : ((List.range len).map f).length = len := by simp
      have hmem : ∀ x ∈ (List.range len).map f, ∃ i, i < len ∧ f i = x := fun x hx => by
        rw [List.mem_map] at hx
        obtain ⟨i, hi, rfl⟩ := hx
        exact ⟨i, List.mem_range.1 hi, rfl⟩
      refine ⟨(List.range len).map f, ⟨some a, cap, by rw [hlen], by rw [hlen]; exact hl, ?_⟩, ?_, ?_, ?_⟩
      · refine ⟨rfl, by rw [hlen]; unfold maxLen at hm; omega, fun _ => ⟨a, rfl, fun j p hj => ?_⟩⟩
        have hjl : j < len := by have := (List.getElem?_eq_some_iff.1 hj).1; rwa [hlen] at this
        have e1 : p = f j := by
          rw [List.getElem?_map, List.getElem?_range hjl] at hj
          exact (Option.some.inj hj).symm
        subst e1
        obtain ⟨cs', h1, h2, h3⟩ := (hf j hjl).1
        exact ⟨cs', h1, h2, h3⟩
      · intro x hx
        obtain ⟨i, hi, rfl⟩ := hmem x hx
        exact (hf i hi).2.1
      · have := bulkAll_map bulk f D len (fun i hi => (hf i hi).2.2.1)
        simp only [sumOf, Rows.uptoBulk, List.map_map]
        change ((List.range len).map fun i => bulk (f i)).sum + 1 ≤ _
        omega
      · intro hw
        simp only [DataW.weights, ht] at hw
        refine ⟨?_, fun x hx => ?_⟩
        · rw [hlen]
          have := hw _ (List.mem_cons_self ..)
          simp only [List.length_map, List.length_range] at this
          exact Nat.le_trans (Nat.mul_le_mul_right _ (Nat.le_add_right _ _)) this
        · obtain ⟨i, hi, rfl⟩ := hmem x hx
          refine (hf i hi).2.2.2 (fun n hn => hw n (List.mem_cons_of_mem _ (List.mem_append_left _ (weightsAll_mem e _ (D i) ?_ n hn))))
          rw [List.mem_map]
          exact ⟨i, List.mem_range.2 hi, rfl⟩

/-- the fields from one on -/
structure OpensAll (P : Program) {α : Type} (fs : List Field) (off : Nat) (d : Kd α) (good : α → Prop) (bulk : α → Nat) (small : α → Prop) : Prop where
  out : ∀ {H : Type} {enc : TypeId × Value → H} {w : World} {spare : Nat → Bool} {held : Bool} {n : Nat} {cs : List Value} {xs : List (DataW H × List MemPlace)},
    cs.length = off + d.sz → xs.length = fs.length → (∀ (i : Nat) (f : Field), fs[i]? = some f → DataW.trod enc P w 0 spare held n f.type ((cs.drop f.offset).take (P.cellsOf f.type)) = xs[i]?) →
      ∃ v : α, d.K w v (cs.drop off) ∧ good v ∧ bulk v ≤ Rows.uptoBulkAll (xs.map (·.1)) ∧ ((∀ n ∈ DataW.weightsEach P (fs.map (·.type)) (xs.map (·.1)), n ≤ reachBytes) → small v)
theorem opens_last {α : Type} {f : Field} {off : Nat} {d : Kd α} {good : α → Prop} {bulk : α → Nat} {small : α → Prop} (hoff : f.offset = off) (hsz : d.sz = P.cellsOf f.type) (ho : Opens P f.type d good bulk small) : OpensAll P [f] off d good bulk small := by
  constructor
  intro H enc w spare held n cs xs hl hx hf
  match xs, hx with
  | [y], _ =>
    have h := hf 0 f rfl
    rw [hoff, ← hsz, List.take_of_length_le (by rw [List.length_drop]; omega)] at h
    obtain ⟨v, hK, hg, hb, hs⟩ := ho.out h
    exact ⟨v, hK, hg, by simpa [Rows.uptoBulkAll] using hb, fun hw => hs (fun n hn => hw n (by simp [DataW.weightsEach, hn]))⟩
theorem opens_cons {α β : Type} {f : Field} {fs : List Field} {off : Nat} {a : Kd α} {b : Kd β} {good : α → Prop} {bulk : α → Nat} {small : α → Prop} {good' : β → Prop} {bulk' : β → Nat} {small' : β → Prop} (hoff : f.offset = off) (hsz : a.sz = P.cellsOf f.type)
    (ho : Opens P f.type a good bulk small) (hr : OpensAll P fs (off + a.sz) b good' bulk' small') : OpensAll P (f :: fs) off (Kd.pair a b) (fun v => good v.1 ∧ good' v.2) (fun v => bulk v.1 + bulk' v.2) (fun v => small v.1 ∧ small' v.2) := by
  constructor
  intro H enc w spare held n cs xs hl hx hf
  match xs, hx with
  | y :: ys, hx =>
    have hl' : cs.length = off + (a.sz + b.sz) := hl
    have h := hf 0 f rfl
    rw [hoff, ← hsz] at h
    obtain ⟨v, hK, hg, hb, hs⟩ := ho.out h
    obtain ⟨u, hK', hg', hb', hs'⟩ := hr.out (cs := cs) (xs := ys) (by omega) (by simpa using hx) (fun i g hi => by simpa using hf (i + 1) g (by simpa using hi))
    refine ⟨(v, u), ⟨_, _, ?_, hK, hK'⟩, ⟨hg, hg'⟩, ?_, fun hw => ⟨hs (fun n hn => hw n ?_), hs' (fun n hn => hw n ?_)⟩⟩
    · rw [← List.drop_drop, List.take_append_drop]
    · simp only [List.map_cons, Rows.uptoBulkAll]; exact Nat.add_le_add hb hb'
    · simp only [List.map_cons, DataW.weightsEach]; exact List.mem_append_left _ hn
    · simp only [List.map_cons, DataW.weightsEach]; exact List.mem_append_right _ hn
theorem opens_struct {α : Type} {t : TypeId} {fs : Array Field} {d : Kd α} {good : α → Prop} {bulk : α → Nat} {small : α → Prop} (ht : P.underlying t = some (.struct fs)) (hsz : d.sz = P.cellsOf t) (hf : OpensAll P fs.toList 0 d good bulk small) : Opens P t d good (fun v => bulk v + 1) small := by
  constructor
  intro H enc w spare held fuel cs x h
  obtain ⟨xs, n, _, rfl, hl, hlen, hx⟩ := DataW.trod_struct ht h
  obtain ⟨v, hK, hg, hb, hs⟩ := hf.out (cs := cs) (xs := xs) (by omega) (by simpa using hlen) (fun i f hi => hx i f (by simpa using hi))
  refine ⟨v, by simpa using hK, hg, by simp only [Rows.uptoBulk]; omega, fun hw => hs (fun n hn => hw n ?_)⟩
  simp only [DataW.weights, ht]; exact hn
theorem opens_iso {α β : Type} {t : TypeId} {d : Kd α} {f : β → α} {good : α → Prop} {bulk : α → Nat} {small : α → Prop} (g : α → β) (hg : ∀ v, f (g v) = v) (ho : Opens P t d good bulk small) : Opens P t (Kd.iso d f) (fun v => good (f v)) (fun v => bulk (f v)) (fun v => small (f v)) := by
  constructor
  intro H enc w spare held fuel cs x h
  obtain ⟨v, hK, h1, h2, h3⟩ := ho.out h
  refine ⟨g v, ?_, ?_, ?_, ?_⟩
  · show d.K w (f (g v)) cs
    rw [hg]; exact hK
  · show good (f (g v)); rw [hg]; exact h1
  · show bulk (f (g v)) ≤ _; rw [hg]; exact h2
  · show _ → small (f (g v)); rw [hg]; exact h3
theorem Opens.imp {α : Type} {t : TypeId} {d : Kd α} {good good' : α → Prop} {bulk bulk' : α → Nat} {small small' : α → Prop} (h : Opens P t d good bulk small) (h1 : ∀ v, good v → good' v) (h2 : ∀ v, bulk' v ≤ bulk v) (h3 : ∀ v, small v → small' v) : Opens P t d good' bulk' small' := by
  constructor
  intro H enc w spare held fuel cs x hx
  obtain ⟨v, a, b, c, d⟩ := h.out hx
  exact ⟨v, a, h1 _ b, Nat.le_trans (h2 _) c, fun hw => h3 _ (d hw)⟩
theorem sumOf_le {α : Type} {f g : α → Nat} (h : ∀ x, f x ≤ g x) : ∀ xs : List α, sumOf f xs ≤ sumOf g xs
  | [] => Nat.le_refl _
  | x :: r => by simp only [sumOf, List.map_cons, List.sum_cons]; exact Nat.add_le_add (h x) (sumOf_le h r)
theorem sumOf_len {α : Type} : ∀ xs : List α, sumOf (fun _ => 1) xs = xs.length
  | [] => rfl
  | x :: r => by
    have := sumOf_len r
    simp only [sumOf, List.map_cons, List.sum_cons, List.length_cons] at this ⊢
    omega

end Go.Proofs.Ytjljkcbopkldbaa.Opn
