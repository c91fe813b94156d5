/-
  What Size and the reference's functions answer, as plain lists. Conditions: each text of an edit is at most 2^47 - 4096 bytes long, of edits there are fewer than 2^47 / 56.
-/
import Derived.Test.YtjljkcbopkldbaaPu
import Derived.Test.YtjljkcbopkldbaaX5
import Derived.Test.YtjljkcbopkldbaaX7
namespace Go.Proofs.Ytjljkcbopkldbaa.Pl
open Go.RowKit Go.Proofs.YtjljkcbopkldbaaW.PrintWords Go.Proofs.YtjljkcbopkldbaaW.PrintLast Go.Proofs.YtjljkcbopkldbaaW.PrintMore Go.Proofs.Ytjljkcbopkldbaa.X Go.Proofs.Ytjljkcbopkldbaa
set_option linter.unusedVariables false
set_option linter.unusedSimpArgs false

def sizeStep (n : Int) (e : S84) : Int := wrap64 (n + wrap64 ((e.f2.length : Int) - e.f1.length))
def sizeF (l : List S84) : Int := l.foldl sizeStep 0
theorem size_ev (l : List S84) (hl : l.length < 2513169434916) : Ev (fun k => change_Size.f k l) (sizeF l) := by
  have loop : ∀ (r : List S84) (i : Nat) (n : Int), l.drop i = r → Ev (fun k => change_Size.l0 k n l (l.length : Int) (i : Int)) (r.foldl sizeStep n) := by
    intro r
    induction r with
    | nil =>
      intro i n h
      have := drop_none h
      refine Ev.step (f := fun _ => some n) (fun k => ?_) (Ev.now _)
      simp only [change_Size.l0]; rw [if_neg (by omega)]
    | cons e r ih =>
      intro i n h
      obtain ⟨hi, he, hr⟩ := drop_cons h
      refine Ev.step (f := fun k => change_Size.l0 k (sizeStep n e) l (l.length : Int) ((i + 1 : Nat) : Int)) (fun k => ?_) (ih (i + 1) _ hr)
      simp only [change_Size.l0]
      rw [if_pos (by omega), if_pos (by omega), if_pos (by omega), he, w64 (x := (i : Int) + 1) (by omega) (by omega)]; rfl
  exact loop l 0 0 rfl
theorem refsize_ev (l : List S84) (hl : l.length < 2513169434916) : Ev (fun k => quoinref17_Size.f k l) (sizeF l) := by
  have loop : ∀ (r : List S84) (i : Nat) (n : Int), l.drop i = r → Ev (fun k => quoinref17_Size.l0 k l n (i : Int)) (r.foldl sizeStep n) := by
    intro r
    induction r with
    | nil =>
      intro i n h
      have := drop_none h
      refine Ev.step (f := fun _ => some n) (fun k => ?_) (Ev.now _)
      simp only [quoinref17_Size.l0]; rw [if_neg (by omega)]
    | cons e r ih =>
      intro i n h
      obtain ⟨hi, he, hr⟩ := drop_cons h
      refine Ev.step (f := fun k => quoinref17_Size.l0 k l (sizeStep n e) ((i + 1 : Nat) : Int)) (fun k => ?_) (ih (i + 1) _ hr)
      simp only [quoinref17_Size.l0]
      rw [if_pos (by omega), if_pos (by omega), he, w64 (x := (i : Int) + 1) (by omega) (by omega)]; rfl
  exact loop l 0 0 rfl
/-- where nothing wraps -/
theorem sizeF_eq (l : List S84) (h1 : news l ≤ 140737488355328) (h2 : olds l ≤ 140737488355328) : sizeF l = sizeL l := by
  have loop : ∀ (r : List S84) (n : Int), -140737488355328 ≤ n - olds r → n + news r ≤ 140737488355328 → r.foldl sizeStep n = n + sizeL r := by
    intro r
    induction r with
    | nil => intro n _ _; simp [sizeL]
    | cons e r ih =>
      intro n ha hb
      rw [olds_cons] at ha
      rw [news_cons] at hb
      have hs : sizeStep n e = n + ((e.f2.length : Int) - e.f1.length) := by
        unfold sizeStep
        rw [w64 (x := (e.f2.length : Int) - e.f1.length) (by omega) (by omega), w64 (by omega) (by omega)]
      rw [List.foldl_cons, hs, ih _ (by omega) (by omega), sizeL_cons]; omega
  have := loop l 0 (by omega) (by omega)
  unfold sizeF; rw [this]; omega
theorem reffirst_ev (l : List S84) (hl : l.length < 2513169434916) : Ev (fun k => quoinref17_First.f k l) (firstL l) := by
  have loop : ∀ (r : List S84) (i : Nat) (m : Int), 0 < i → l.drop i = r → Ev (fun k => quoinref17_First.l0 k l m (i : Int)) (r.foldl lessAt m) := by
    intro r
    induction r with
    | nil =>
      intro i m h0 h
      have := drop_none h
      refine Ev.step (f := fun _ => some m) (fun k => ?_) (Ev.now _)
      simp only [quoinref17_First.l0]; rw [if_neg (by omega)]
    | cons e r ih =>
      intro i m h0 h
      obtain ⟨hi, he, hr⟩ := drop_cons h
      refine Ev.step (f := fun k => quoinref17_First.l0 k l (lessAt m e) ((i + 1 : Nat) : Int)) (fun k => ?_) (ih (i + 1) _ (by omega) hr)
      simp only [quoinref17_First.l0]
      rw [if_pos (by omega), if_neg (by omega), if_pos (by omega), he, w64 (x := (i : Int) + 1) (by omega) (by omega)]
      unfold lessAt
      by_cases c : e.f0 < m
      · rw [if_pos c, if_pos c]; rfl
      · rw [if_neg c, if_neg c]; rfl
  cases l with
  | nil =>
    refine Ev.step (f := fun _ => some 0) (fun k => ?_) (Ev.now _)
    simp only [quoinref17_First.f, quoinref17_First.l0]; rw [if_neg (by simp)]
  | cons e r =>
    refine Ev.step (f := fun k => quoinref17_First.l0 k (e :: r) e.f0 ((0 + 1 : Nat) : Int)) (fun k => ?_) (loop r 1 e.f0 (by omega) rfl)
    simp only [quoinref17_First.f, quoinref17_First.l0]
    rw [if_pos (by simp), if_pos trivial, if_pos (by omega), w64 (by omega) (by omega)]; rfl

theorem refcopied_eq (l : List Int) (h : l.length ≤ 140737488351232) : quoinref17_copied.f l = some l := by
  unfold quoinref17_copied.f
  simp only [Option.bind_some, List.length_nil, List.nil_append]
  rw [if_pos (by omega)]
theorem refinvert_ev (l : List S84) (hs : Small l) (hl : l.length < 2513169434916) : Ev (fun k => quoinref17_Invert.f k l) (l.reverse.map flip) := by
  have loop : ∀ (i : Nat) (acc : List S84), i ≤ l.length → acc.length + i = l.length → Ev (fun k => quoinref17_Invert.l0 k l acc ((i : Int) - 1)) (acc ++ ((l.take i).reverse.map flip)) := by
    intro i
    induction i with
    | zero =>
      intro acc _ _
      refine Ev.step (f := fun _ => some acc) (fun k => ?_) ?_
      · simp only [quoinref17_Invert.l0]; rw [if_neg (by omega)]
      · simp; exact Ev.now _
    | succ i ih =>
      intro acc hi ha
      have hil : i < l.length := by omega
      have hm := hs l[i] (List.getElem_mem hil)
      have e1 : (((i + 1 : Nat) : Int) - 1) = (i : Int) := by omega
      refine Ev.step (f := fun k => quoinref17_Invert.l0 k l (acc ++ [flip l[i]]) ((i : Int) - 1)) (fun k => ?_) ?_
      · simp only [quoinref17_Invert.l0]
        rw [e1, if_pos (by omega), if_pos (by omega), if_pos (by omega), rd84_nat l i hil, refcopied_eq _ hm.2, refcopied_eq _ hm.1]
        simp only [Option.bind_some]
        rw [if_pos (by omega), w64 (by omega) (by omega)]; rfl
      · have := ih (acc ++ [flip l[i]]) (by omega) (by simp; omega)
        rw [List.take_succ_eq_append_getElem hil, List.reverse_append, List.reverse_singleton, List.singleton_append, List.map_cons]
        rw [List.append_assoc, List.singleton_append] at this
        exact this
  have := loop l.length [] (Nat.le_refl _) (by simp)
  rw [List.take_length, List.nil_append] at this
  refine Ev.congr (fun k => ?_) this
  unfold quoinref17_Invert.f
  rw [w64 (by omega) (by omega)]
end Go.Proofs.Ytjljkcbopkldbaa.Pl
