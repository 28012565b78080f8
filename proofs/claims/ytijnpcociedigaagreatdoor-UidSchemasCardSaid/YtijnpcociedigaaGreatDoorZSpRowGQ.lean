/- The document's look at a job; who reads whom, told both ways. No program in sight. -/
import Derived.Test.YtijnpcociedigaaGreatDoorZPuGraph
import Derived.Test.YtijnpcociedigaaGreatDoorZSpRowOQ

section
/- The document's look at a job; who reads whom, told both ways. No program in sight. -/
set_option linter.unusedSimpArgs false
set_option linter.unusedVariables false
namespace Go.Proofs.YtijnpcociedigaaGreatDoor
open Go Go.Abs

/-- What is wrong with a node behind others whose rest may be; as the document has it. -/
def lastG (r : R Ty) (w : Int) (n : Nd) (twice : Bool) : Int :=
  match r with
  | .er e => e
  | .ok t => if 64 < w then 10 else if (n.op.k = 1 ∨ n.op.k = 9) ∧ twice = true then 7 else 0
def nodeG (ahead : List Nd) (ts : List Ty) (n : Nd) : Int :=
  if (n.uid ≠ [] ∧ nameS n.uid = false) ∨ nameS n.grp = false then 6
  else if n.uid ≠ [] ∧ ahead.any (fun o => decide (o.uid = n.uid)) = true then 7
  else if n.par < 1 ∨ 4 < n.par ∨ n.mx < n.par ∨ 16 < n.mx then 1
  else if seenIn ahead [] n.ins = false then 1
  else lastG (outO n.op (n.ins.map (fun i => ts.getD i.toNat (.mk 0 [])))) (wtN (wtsG [] ahead) n) n (ahead.any (fun o => decide (o.op.k = n.op.k) && decide (o.op.name = n.op.name)))
/-- The types that go out of nodes. -/
def typesR (ts : List Ty) : List Nd → List Ty
  | [] => ts
  | n :: r => typesR (ts ++ [(outO n.op (n.ins.map (fun i => ts.getD i.toNat (.mk 0 [])))).get (.mk 0 [])]) r
def goR (ahead : List Nd) : List Nd → Option (Nat × Int)
  | [] => none
  | n :: r => if nodeG ahead (typesR [] ahead) n ≠ 0 then some (ahead.length, nodeG ahead (typesR [] ahead) n) else goR (ahead ++ [n]) r
def checkR (g : List Nd) : Int × Int :=
  if g = [] then (0, 3) else if 16 < g.length then (0, 10)
  else match goR [] g with
    | some (i, e) => (i, e)
    | none => match loneFrom g 0 g with
      | some i => (i, 1)
      | none => (0, 0)

/-- A node that may be: what it reads stands ahead, is no sink, and each once. -/
def insGood (ahead : List Nd) (n : Nd) : Prop := (∀ i ∈ n.ins, 0 ≤ i ∧ i < ahead.length ∧ (ahead.getD i.toNat noN).op.k ≠ 9) ∧ n.ins.Nodup

theorem seen_good (ahead : List Nd) : ∀ (r s : List Int), seenIn ahead s r = true → (∀ i ∈ r, 0 ≤ i ∧ i < ahead.length ∧ (ahead.getD i.toNat noN).op.k ≠ 9 ∧ i ∉ s) ∧ r.Nodup
  | [], s, h => by simp
  | i :: r, s, h => by
    simp only [seenIn] at h
    split at h
    · simp at h
    · rename_i hi
      obtain ⟨h1, h2⟩ := seen_good ahead r (s ++ [i]) h
      refine ⟨fun j hj => ?_, ?_⟩
      · rcases List.mem_cons.1 hj with rfl | hj
        · refine ⟨by omega, by omega, fun h => hi (.inr (.inr (.inl h))), fun h => hi (.inr (.inr (.inr h)))⟩
        · have := h1 j hj
          exact ⟨this.1, this.2.1, this.2.2.1, fun h => this.2.2.2 (by simp [h])⟩
      · rw [List.nodup_cons]
        exact ⟨fun hj => (h1 i hj).2.2.2 (by simp), h2⟩

theorem nodeG_good {ahead : List Nd} {ts : List Ty} {n : Nd} (h : nodeG ahead ts n = 0) : insGood ahead n := by
  simp only [nodeG] at h
  split at h
  · simp at h
  split at h
  · simp at h
  split at h
  · simp at h
  split at h
  · simp at h
  · rename_i h4
    have h5 : seenIn ahead [] n.ins = true := by cases hh : seenIn ahead [] n.ins <;> simp_all
    obtain ⟨h6, h7⟩ := seen_good _ _ _ h5
    exact ⟨fun i hi => ⟨(h6 i hi).1, (h6 i hi).2.1, (h6 i hi).2.2.1⟩, h7⟩

theorem goR_good : ∀ (r ahead : List Nd), goR ahead r = none → ∀ k (hk : k < r.length), insGood (ahead ++ r.take k) r[k]
  | [], ahead, h, k, hk => by simp at hk
  | n :: r, ahead, h, k, hk => by
    rw [goR] at h
    split at h
    · simp at h
    · rename_i h0
      have h1 : nodeG ahead (typesR [] ahead) n = 0 := by omega
      cases k with
      | zero => simpa using nodeG_good h1
      | succ k =>
        have := goR_good r _ h k (by simpa using hk)
        simpa using this

/-- A job that may be. -/
structure GoodG (g : List Nd) : Prop where
  len : g.length ≤ 16
  ins : ∀ k (hk : k < g.length), (∀ i ∈ g[k].ins, 0 ≤ i ∧ i < k ∧ (g.getD i.toNat noN).op.k ≠ 9) ∧ g[k].ins.Nodup
  read : ∀ k (hk : k < g.length), g[k].op.k ≠ 9 → outsFrom k 0 g ≠ []

theorem lone_read (g : List Nd) : ∀ (l : List Nd) (i : Nat), loneFrom g i l = none → ∀ k (hk : k < l.length), l[k].op.k ≠ 9 → outsFrom ((i + k : Nat) : Int) 0 g ≠ []
  | [], i, h, k, hk => by simp at hk
  | n :: r, i, h, k, hk => by
    rw [loneFrom] at h
    split at h
    · simp at h
    · rename_i h0
      cases k with
      | zero => intro h1 h2; exact h0 ⟨h1, h2⟩
      | succ k =>
        have := lone_read g r (i + 1) h k (by simpa using hk)
        rw [show i + (k + 1) = i + 1 + k by omega]
        simpa using this

theorem checkR_good {g : List Nd} (h : (checkR g).2 = 0) : GoodG g := by
  unfold checkR at h
  split at h
  · simp at h
  split at h
  · simp at h
  rename_i h1 h2
  cases hg : goR [] g with
  | some p =>
    obtain ⟨i, e⟩ := p
    exfalso
    rw [hg] at h
    simp only at h
    have : ∀ (r ahead : List Nd), goR ahead r = some (i, e) → e ≠ 0 := by
      intro r
      induction r with
      | nil => intro a h; simp [goR] at h
      | cons n r ih =>
        intro a h
        rw [goR] at h
        split at h
        · simp at h; rename_i h0; rw [← h.2]; exact h0
        · exact ih _ h
    exact this _ _ hg h
  | none =>
    rw [hg] at h
    simp only at h
    cases hl : loneFrom g 0 g with
    | some i => rw [hl] at h; simp at h
    | none =>
      refine ⟨by omega, fun k hk => ?_, fun k hk hne => ?_⟩
      · obtain ⟨h3, h4⟩ := goR_good _ _ hg k hk
        refine ⟨fun i hi => ?_, h4⟩
        have := h3 i hi
        simp only [List.nil_append, List.length_take] at this
        refine ⟨this.1, by omega, ?_⟩
        have e : (List.take k g).getD i.toNat noN = g.getD i.toNat noN := by
          rw [List.getD_eq_getElem?_getD, List.getD_eq_getElem?_getD, List.getElem?_take_of_lt (by omega)]
        rw [← e]
        exact this.2.2
      · have := lone_read g g 0 hl k hk hne
        simpa using this

end Go.Proofs.YtijnpcociedigaaGreatDoor
end

section
/- Arguments that are jobs: which trees they are. -/
set_option linter.unusedVariables false
namespace Go.Proofs.YtijnpcociedigaaGreatDoor
open Go Go.Abs

end Go.Proofs.YtijnpcociedigaaGreatDoor
end
