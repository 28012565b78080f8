/- Plain facts that many contracts use. -/
import Derived.Test.YtijnpcociedigaaGreatDoorA3
import Derived.Below

section
/- Plain facts that many contracts use. -/
set_option linter.unusedSimpArgs false
set_option linter.unusedVariables false
set_option linter.unnecessarySimpa false
namespace Go.Proofs.YtijnpcociedigaaGreatDoor
open Go Go.RowKit Go.Abs

/-- A contract over worlds that writes nothing old, as a contract over trees. -/
theorem fn_below {P : Program} {f : FuncId} {args : List AV} {r : AV} (hc : callable P f = true)
    (h : ∀ w G vs, Inv w G [] → RepL G args vs → Calls P f vs w fun e w' => ∃ v, e = .returned v ∧ RepA G r v ∧ Below w.heap.size w w') : Abs.Fn P f [] args r [] := by
  refine ⟨hc, fun w G vs hi hv => (h w G vs hi hv).mono ?_⟩
  rintro e w' ⟨v, he, hr, hb⟩
  have hn : ∀ id, G.loc id = none := fun id => hi.loc_none (Nat.zero_le _)
  refine ⟨v, G, he, hr, ⟨fun b o c e => ?_, fun id l e => by rw [hn] at e; simp at e, fun i j b e => by simp [Gh.blk, hn] at e, hi.tab.keep (fun _ _ _ e => e) (fun g _ hlt => hb.block g hlt)⟩, ⟨hb.os, hb.tape, hb.output, hb.size, fun b hlt _ => hb.block b hlt, fun _ _ _ h => h, fun _ _ _ h => .inl h, fun id _ l e => by rw [hn] at e; simp at e, fun id b e => by simp [Gh.blk, hn] at e⟩⟩
  rw [hb.cell (hi.rd_lt e)]
  exact hi.rd b o c e

def firstE {α : Type} (g : α → Int) : List α → Int
  | [] => 0
  | e :: r => if g e ≠ 0 then g e else firstE g r

theorem firstE_drop {α : Type} (g : α → Int) (l : List α) (i : Nat) (h : i < l.length) : firstE g (l.drop i) = if g l[i] ≠ 0 then g l[i] else firstE g (l.drop (i + 1)) := by
  rw [List.drop_eq_getElem_cons h]
  simp [firstE]

def allP {α β : Type} (g : α → β → Bool) : List α → List β → Bool
  | [], [] => true
  | a :: r, b :: q => g a b && allP g r q
  | _, _ => false

theorem allP_length {α β : Type} (g : α → β → Bool) : ∀ (l : List α) (q : List β), l.length ≠ q.length → allP g l q = false
  | [], [], h => absurd rfl h
  | [], _ :: _, _ => rfl
  | _ :: _, [], _ => rfl
  | a :: r, b :: q, h => by simp [allP, allP_length g r q (by simpa using h)]

theorem allP_drop {α β : Type} (g : α → β → Bool) (l : List α) (q : List β) (i : Nat) (h : i < l.length) (h' : i < q.length) : allP g (l.drop i) (q.drop i) = (g l[i] q[i] && allP g (l.drop (i + 1)) (q.drop (i + 1))) := by
  rw [List.drop_eq_getElem_cons h, List.drop_eq_getElem_cons h']
  simp [allP]

theorem pur_tup {vs : List AV} {ts : List T} (h : toTs vs = some ts) : (AV.tup vs).pur = some (.tup (ts.map .p)) := by simp [AV.pur, h]

theorem take_snoc {α : Type} {l : List α} {i : Nat} (h : i < l.length) : l.take i ++ [l[i]] = l.take (i + 1) := by
  rw [List.take_succ_eq_append_getElem h]

theorem take_snoc_map {α : Type} {f : α → T} {l : List α} {i : Nat} (h : i < l.length) : (l.map f).take i ++ [f l[i]] = (l.map f).take (i + 1) := by
  rw [List.take_succ_eq_append_getElem (by simpa using h)]
  simp

end Go.Proofs.YtijnpcociedigaaGreatDoor
end

section
/- Maps from texts to numbers, over trees. -/
set_option linter.unusedSimpArgs false
set_option linter.unusedVariables false
namespace Go.Proofs.YtijnpcociedigaaGreatDoor
open Go Go.Abs

abbrev encM (m : List (List UInt8 × Int)) : List (T × T) := m.map fun p => (.str p.1, .int .i64 p.2)
def getM : List (List UInt8 × Int) → List UInt8 → Int
  | [], _ => 0
  | p :: r, s => if s = p.1 then p.2 else getM r s
def hasM : List (List UInt8 × Int) → List UInt8 → Bool
  | [], _ => false
  | p :: r, s => if s = p.1 then true else hasM r s
def putM : List (List UInt8 × Int) → List UInt8 → Int → List (List UInt8 × Int)
  | [], s, v => [(s, v)]
  | p :: r, s, v => if s = p.1 then (s, v) :: r else p :: putM r s v

theorem getM_put (s t : List UInt8) (v : Int) : ∀ m, getM (putM m s v) t = if t = s then v else getM m t
  | [] => by simp [putM, getM]
  | p :: r => by
    unfold putM
    by_cases h : s = p.1
    · rw [if_pos h]
      simp only [getM]
      by_cases h2 : t = s
      · simp [h2]
      · rw [if_neg h2, if_neg h2, if_neg (by rw [← h]; exact h2)]
    · rw [if_neg h]
      simp only [getM]
      by_cases h2 : t = p.1
      · rw [if_pos h2, if_pos h2, if_neg (by rw [h2]; exact fun e => h e.symm)]
      · rw [if_neg h2, if_neg h2, getM_put s t v r]
theorem find_M (s : List UInt8) : ∀ (m : List (List UInt8 × Int)) (i : Nat),
    (mapFind .string (.str s) (encM m) i = some none ∧ getM m s = 0 ∧ hasM m s = false ∧ ∀ v, putM m s v = m ++ [(s, v)]) ∨
    ∃ j, mapFind .string (.str s) (encM m) i = some (some (i + j, .int .i64 (getM m s))) ∧ hasM m s = true ∧ ∀ v, putM m s v = m.set j (s, v)
  | [], i => .inl ⟨rfl, rfl, rfl, fun v => rfl⟩
  | p :: r, i => by
    have e : mapFind .string (.str s) (encM (p :: r)) i = if s = p.1 then some (some (i, .int .i64 p.2)) else mapFind .string (.str s) (encM r) (i + 1) := by
      simp only [encM, List.map_cons, mapFind, isKeyT, keyEq]
      by_cases h : s = p.1
      · simp [h]
      · rw [if_neg h, show (s == p.1) = false by simpa using h]
    rw [e]
    by_cases h : s = p.1
    · refine .inr ⟨0, by rw [if_pos h]; simp [getM, h], by simp [hasM, h], fun v => by simp [putM, h]⟩
    · rw [if_neg h]
      rcases find_M s r (i + 1) with ⟨h1, h2, h3, h4⟩ | ⟨j, h1, h3, h4⟩
      · exact .inl ⟨h1, by simp [getM, h, h2], by simp [hasM, h, h3], fun v => by simp [putM, h, h4]⟩
      · exact .inr ⟨j + 1, by rw [h1]; simp [getM, h]; omega, by simp [hasM, h, h3], fun v => by simp [putM, h, h4]⟩

theorem lookup_M {m : List (List UInt8 × Int)} {s : List UInt8} {id : Nat} {H : List Ob} {K : AV → List Ob → Prop} (ho : H[id]? = some (.mapo (encM m))) (hk : K (.p (.int .i64 (getM m s))) H) :
    aLookup .string false (.p (.int .i64 0)) (.mapr id) (.p (.str s)) H K := by
  simp only [aLookup, aKey, ho, isKeyT]
  rcases find_M s m 0 with ⟨h1, h2, _, _⟩ | ⟨j, h1, _, _⟩
  · rw [h1]
    simpa [h2] using hk
  · rw [h1]
    exact hk
theorem update_M {m : List (List UInt8 × Int)} {s : List UInt8} {v : Int} {id : Nat} {H : List Ob} {K : AV → List Ob → Prop} (ho : H[id]? = some (.mapo (encM m))) (hk : K .top (H.set id (.mapo (encM (putM m s v))))) :
    aMapUpdate .string (.mapr id) (.p (.str s)) (.p (.int .i64 v)) H K := by
  have hc : (AV.p (.int .i64 v)).cellT = some (.int .i64 v) := rfl
  simp only [aMapUpdate, hc, aKey, ho, isKeyT]
  rcases find_M s m 0 with ⟨h1, _, _, h4⟩ | ⟨j, h1, _, h4⟩
  · rw [h1]
    rw [h4] at hk
    simpa [encM] using hk
  · rw [h1]
    rw [h4] at hk
    simp only [Nat.zero_add]
    simpa [encM, List.map_set] using hk

end Go.Proofs.YtijnpcociedigaaGreatDoor
end
