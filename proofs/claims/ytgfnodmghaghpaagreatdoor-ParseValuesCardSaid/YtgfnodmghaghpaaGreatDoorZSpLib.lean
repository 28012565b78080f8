/- Plain facts that many contracts use. -/
import Derived.Test.YtgfnodmghaghpaaGreatDoorA3
import Derived.Below
set_option linter.unusedSimpArgs false
set_option linter.unusedVariables false
set_option linter.unnecessarySimpa false
namespace Go.Proofs.YtgfnodmghaghpaaGreatDoor
open Go Go.RowKit Go.Abs

/-- A contract over worlds that writes nothing old, as a contract over trees. -/
theorem fn_below {P : Program} {f : FuncId} {args : List AV} {r : AV} (hc : callable P f = true)
    (h : ∀ w G vs, Inv w G [] → RepL G args vs → Calls P f vs w fun e w' => ∃ v, e = .returned v ∧ RepA G r v ∧ Below w.heap.size w w') : Abs.Fn P f [] args r [] := by
  refine ⟨hc, fun w G vs hi hv => (h w G vs hi hv).mono ?_⟩
  rintro e w' ⟨v, he, hr, hb⟩
  have hn : ∀ id, G.loc id = none := fun id => hi.loc_none (Nat.zero_le _)
  refine ⟨v, G, he, hr, ⟨fun b o c e => ?_, fun id l e => by rw [hn] at e; simp at e, fun i j b e => by simp [Gh.blk, hn] at e, hi.tab.keep (fun _ _ _ e => e) (fun g _ hlt => hb.block g hlt)⟩, ⟨hb.os, hb.tape, hb.output, hb.size, fun b hlt _ => hb.block b hlt, fun _ _ _ h => h, fun _ _ _ h => .inl h, fun id _ l e => by rw [hn] at e; simp at e, fun id b e => by simp [Gh.blk, hn] at e⟩⟩
  rw [hb.cell (hi.rd_lt e)]
  exact hi.rd b o c e

def firstE {α : Type} (g : α → Int) : List α → Int
  | [] => 0
  | e :: r => if g e ≠ 0 then g e else firstE g r

theorem firstE_drop {α : Type} (g : α → Int) (l : List α) (i : Nat) (h : i < l.length) : firstE g (l.drop i) = if g l[i] ≠ 0 then g l[i] else firstE g (l.drop (i + 1)) := by
  rw [List.drop_eq_getElem_cons h]
  simp [firstE]

def allP {α β : Type} (g : α → β → Bool) : List α → List β → Bool
  | [], [] => true
  | a :: r, b :: q => g a b && allP g r q
  | _, _ => false

theorem allP_length {α β : Type} (g : α → β → Bool) : ∀ (l : List α) (q : List β), l.length ≠ q.length → allP g l q = false
  | [], [], h => absurd rfl h
  | [], _ :: _, _ => rfl
  | _ :: _, [], _ => rfl
  | a :: r, b :: q, h => by simp [allP, allP_length g r q (by simpa using h)]

theorem allP_drop {α β : Type} (g : α → β → Bool) (l : List α) (q : List β) (i : Nat) (h : i < l.length) (h' : i < q.length) : allP g (l.drop i) (q.drop i) = (g l[i] q[i] && allP g (l.drop (i + 1)) (q.drop (i + 1))) := by
  rw [List.drop_eq_getElem_cons h, List.drop_eq_getElem_cons h']
  simp [allP]

theorem pur_tup {vs : List AV} {ts : List T} (h : toTs vs = some ts) : (AV.tup vs).pur = some (.tup (ts.map .p)) := by simp [AV.pur, h]

theorem tmod_nat {n : Int} {m : Nat} (h : 0 ≤ n) (hm : 0 < m) : ∃ k : Nat, k < m ∧ n.tmod m = (k : Int) := by
  rw [Int.tmod_eq_emod_of_nonneg h]
  have h1 := Int.emod_nonneg n (b := m) (by omega)
  have h2 := Int.emod_lt_of_pos n (b := m) (by omega)
  exact ⟨(n % m).toNat, by omega, by omega⟩

theorem take_snoc {α : Type} {l : List α} {i : Nat} (h : i < l.length) : l.take i ++ [l[i]] = l.take (i + 1) := by
  rw [List.take_succ_eq_append_getElem h]

theorem allT_p : ∀ ts : List T, allT (ts.map .p) = some ts
  | [] => rfl
  | t :: r => by simp [allT_p r]

theorem take_snoc_map {α : Type} {f : α → T} {l : List α} {i : Nat} (h : i < l.length) : (l.map f).take i ++ [f l[i]] = (l.map f).take (i + 1) := by
  rw [List.take_succ_eq_append_getElem (by simpa using h)]
  simp

end Go.Proofs.YtgfnodmghaghpaaGreatDoor
