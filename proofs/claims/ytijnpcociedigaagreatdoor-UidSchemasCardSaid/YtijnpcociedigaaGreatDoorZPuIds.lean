/- The names that last, of a job's nodes; whose are alike. No program in sight. -/
import Derived.Test.YtijnpcociedigaaGreatDoorZPuUidQ
import Derived.Test.YtijnpcociedigaaGreatDoorZSpRowGQ
set_option linter.unusedSimpArgs false
set_option linter.unusedVariables false
namespace Go.Proofs.YtijnpcociedigaaGreatDoor
open Go Go.Abs

/-- A node's name, without what tells it from alike ones, by the names of the nodes ahead. -/
def baseU (n : Nd) (out : List (List UInt8)) : List UInt8 :=
  if n.uid = [] then 97 :: 58 :: (Lib.itoa n.op.k ++ 58 :: (n.op.name ++ 40 :: (TJ.join [44] (n.ins.map fun i => out.getD i.toNat []) ++ [41]))) else 117 :: 58 :: n.uid
def sufU (k : Nat) : List UInt8 := if k = 0 then [] else 35 :: Lib.decDigits k
def fullU (s : List UInt8) (k : Nat) : List UInt8 := s ++ sufU k
def idsGo (out bare : List (List UInt8)) : List Nd → List (List UInt8) × List (List UInt8)
  | [] => (out, bare)
  | n :: r => idsGo (out ++ [fullU (baseU n out) (bare.count (baseU n out))]) (bare ++ [baseU n out]) r
/-- The names of all. -/
def idsU (g : List Nd) : List (List UInt8) := (idsGo [] [] g).1
def bareU (g : List Nd) : List (List UInt8) := (idsGo [] [] g).2

theorem idsGo_app : ∀ (a b : List Nd) (o r : List (List UInt8)), idsGo o r (a ++ b) = idsGo (idsGo o r a).1 (idsGo o r a).2 b
  | [], b, o, r => rfl
  | n :: a, b, o, r => by simp only [List.cons_append, idsGo]; exact idsGo_app a b _ _
theorem idsGo_len : ∀ (a : List Nd) (o r : List (List UInt8)), (idsGo o r a).1.length = o.length + a.length ∧ (idsGo o r a).2.length = r.length + a.length
  | [], o, r => ⟨rfl, rfl⟩
  | n :: a, o, r => by
    have := idsGo_len a (o ++ [fullU (baseU n o) (r.count (baseU n o))]) (r ++ [baseU n o])
    simp only [idsGo, List.length_append, List.length_cons, List.length_nil] at this ⊢
    omega
theorem idsGo_pre : ∀ (a : List Nd) (o r : List (List UInt8)), (∃ x, (idsGo o r a).1 = o ++ x) ∧ ∃ y, (idsGo o r a).2 = r ++ y
  | [], o, r => ⟨⟨[], by simp [idsGo]⟩, [], by simp [idsGo]⟩
  | n :: a, o, r => by
    obtain ⟨⟨x, hx⟩, y, hy⟩ := idsGo_pre a (o ++ [fullU (baseU n o) (r.count (baseU n o))]) (r ++ [baseU n o])
    exact ⟨⟨_, by rw [idsGo, hx, List.append_assoc]⟩, _, by rw [idsGo, hy, List.append_assoc]⟩
@[simp] theorem idsU_length (g : List Nd) : (idsU g).length = g.length := by simpa [idsU] using (idsGo_len g [] []).1
@[simp] theorem bareU_length (g : List Nd) : (bareU g).length = g.length := by simpa [bareU] using (idsGo_len g [] []).2
theorem idsU_take (g : List Nd) (i : Nat) : idsU (g.take i) = (idsU g).take i ∧ bareU (g.take i) = (bareU g).take i := by
  rcases Nat.le_total i g.length with hi | hi
  · have h := idsGo_app (g.take i) (g.drop i) [] []
    rw [List.take_append_drop] at h
    obtain ⟨⟨x, hx⟩, y, hy⟩ := idsGo_pre (g.drop i) (idsGo [] [] (g.take i)).1 (idsGo [] [] (g.take i)).2
    have l1 := (idsGo_len (g.take i) [] []).1
    have l2 := (idsGo_len (g.take i) [] []).2
    simp only [List.length_nil, Nat.zero_add, List.length_take, Nat.min_eq_left hi] at l1 l2
    unfold idsU bareU
    rw [h, hx, hy]
    exact ⟨(List.take_left' l1).symm, (List.take_left' l2).symm⟩
  · rw [List.take_of_length_le hi, List.take_of_length_le (by simpa using hi), List.take_of_length_le (by simpa using hi)]
    exact ⟨rfl, rfl⟩
/-- One name more. -/
theorem idsU_next {g : List Nd} {i : Nat} (h : i < g.length) :
    (idsU g).take (i + 1) = (idsU g).take i ++ [fullU (baseU g[i] ((idsU g).take i)) (((bareU g).take i).count (baseU g[i] ((idsU g).take i)))] ∧ (bareU g).take (i + 1) = (bareU g).take i ++ [baseU g[i] ((idsU g).take i)] := by
  rw [← (idsU_take g i).1, ← (idsU_take g i).2, ← (idsU_take g (i + 1)).1, ← (idsU_take g (i + 1)).2]
  rw [show g.take (i + 1) = g.take i ++ [g[i]] by rw [List.take_succ_eq_append_getElem h]]
  unfold idsU bareU
  rw [idsGo_app]
  exact ⟨rfl, rfl⟩

/-- Jobs whose names are told apart. -/
structure GoodU (g : List Nd) : Prop where
  ins : ∀ k (hk : k < g.length), ∀ i ∈ g[k].ins, 0 ≤ i ∧ i < k
  uid : ∀ i k (hi : i < k) (hk : k < g.length), g[k].uid ≠ [] → g[i].uid ≠ g[k].uid
  nam : ∀ k (hk : k < g.length), ∀ c ∈ g[k].op.name, plainB c = true
  uidp : ∀ k (hk : k < g.length), ∀ c ∈ g[k].uid, plainB c = true

/-- The name at a place; without its number. -/
abbrev idAt (g : List Nd) (k : Nat) : List UInt8 := (idsU g).getD k []
abbrev bareAt (g : List Nd) (k : Nat) : List UInt8 := (bareU g).getD k []

theorem baseU_congr {n m : Nd} {a b : List (List UInt8)} (hu : n.uid = m.uid) (hk : n.op.k = m.op.k) (hn : n.op.name = m.op.name) (hi : n.ins = m.ins) (h : ∀ i ∈ n.ins, a.getD i.toNat [] = b.getD i.toNat []) : baseU n a = baseU m b := by
  unfold baseU
  rw [hu, hk, hn, ← hi, List.map_congr_left h]
theorem getD_take {α : Type} {l : List α} {i j : Nat} {d : α} (h : j < i) : (l.take i).getD j d = l.getD j d := by
  simp [List.getD_eq_getElem?_getD, List.getElem?_take, h]

theorem bare_at {g : List Nd} (G : GoodU g) {k : Nat} (hk : k < g.length) : bareAt g k = baseU g[k] (idsU g) := by
  have h := (idsU_next hk).2
  have e : ((bareU g).take (k + 1)).getD k [] = bareAt g k := getD_take (Nat.lt_succ_self k)
  rw [h] at e
  have l : ((bareU g).take k).length = k := by simp; omega
  rw [← e]
  rw [List.getD_eq_getElem?_getD, List.getElem?_append_right (by omega), l]
  simp only [Nat.sub_self, List.getElem?_cons_zero, Option.getD_some]
  exact baseU_congr rfl rfl rfl rfl (fun i hi => getD_take (by have := G.ins k hk i hi; omega))
theorem id_at {g : List Nd} (G : GoodU g) {k : Nat} (hk : k < g.length) : idAt g k = fullU (bareAt g k) (((bareU g).take k).count (bareAt g k)) := by
  have h := (idsU_next hk).1
  have e : ((idsU g).take (k + 1)).getD k [] = idAt g k := getD_take (Nat.lt_succ_self k)
  have hb : baseU g[k] ((idsU g).take k) = bareAt g k := by
    rw [bare_at G hk]
    exact baseU_congr rfl rfl rfl rfl (fun i hi => getD_take (by have := G.ins k hk i hi; omega))
  rw [h, hb] at e
  have l : ((idsU g).take k).length = k := by simp; omega
  rw [← e]
  rw [List.getD_eq_getElem?_getD, List.getElem?_append_right (by omega), l]
  simp

end Go.Proofs.YtijnpcociedigaaGreatDoor

