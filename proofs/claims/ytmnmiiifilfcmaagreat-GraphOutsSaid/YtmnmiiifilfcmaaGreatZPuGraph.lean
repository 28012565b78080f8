/- Jobs as trees: what is wrong with one, who reads whom. No program in sight. -/
import Derived.Test.YtmnmiiifilfcmaaGreatZPuOut
import Derived.Test.YtmnmiiifilfcmaaGreatZPuEx
set_option linter.unusedSimpArgs false
set_option linter.unusedVariables false
namespace Go.Proofs.YtmnmiiifilfcmaaGreat
open Go Go.Abs

/-- A node of a job. -/
structure Nd where
  uid : List UInt8
  op : Opr
  ins : List Int
  par : Int
  mx : Int
  grp : List UInt8
  alone : Bool

def encN (x : Nd) : T := .agg [.str x.uid, .int .i64 x.op.k, .str x.op.name, .int .i64 x.op.t.kind, .slice (x.op.t.of.map encT), .slice (x.op.es.map encE), .str x.op.key.op, .int .i64 x.op.key.v.k, .int .i64 x.op.key.v.i, .bool x.op.key.v.b, .str x.op.key.v.s, .slice (x.op.key.v.t.map encV), .int .i64 x.op.key.n, .slice (x.op.key.a.map encE), .int .i64 x.op.f, .int .i64 x.op.n, .slice (x.ins.map (T.int .i64)), .int .i64 x.par, .int .i64 x.mx, .str x.grp, .bool x.alone]
@[simp] theorem encN_eta {x : Nd} : encN x = .agg [.str x.uid, .int .i64 x.op.k, .str x.op.name, .int .i64 x.op.t.kind, .slice (x.op.t.of.map encT), .slice (x.op.es.map encE), .str x.op.key.op, .int .i64 x.op.key.v.k, .int .i64 x.op.key.v.i, .bool x.op.key.v.b, .str x.op.key.v.s, .slice (x.op.key.v.t.map encV), .int .i64 x.op.key.n, .slice (x.op.key.a.map encE), .int .i64 x.op.f, .int .i64 x.op.n, .slice (x.ins.map (T.int .i64)), .int .i64 x.par, .int .i64 x.mx, .str x.grp, .bool x.alone] := id rfl
@[simp] theorem encN_cells (x : Nd) : (encN x).cells.length = 21 := id rfl

def zeroO : Opr := ⟨0, [], .mk 0 [], [], zeroE, 0, 0⟩
def noN : Nd := ⟨[], zeroO, [], 0, 0, [], false⟩

/-- May a node be read by what comes behind: of which none has come twice. -/
def seenIn (ahead : List Nd) : List Int → List Int → Bool
  | _, [] => true
  | s, i :: r => if i < 0 ∨ (ahead.length : Int) ≤ i ∨ (ahead.getD i.toNat noN).op.k = 9 ∨ i ∈ s then false else seenIn ahead (s ++ [i]) r

def sumW (ws : List Int) : Int → List Int → Int
  | w, [] => w
  | w, i :: r => sumW ws (IntKind.i64.wrap (w + ws.getD i.toNat 0)) r
def wtN (ws : List Int) (n : Nd) : Int :=
  if n.op.k = 1 then 1 else if n.op.k = 4 then IntKind.i64.wrap (sumW ws 0 n.ins * n.op.es.length) else sumW ws 0 n.ins
/-- How many rows each node lets out. -/
def wtsG (ws : List Int) : List Nd → List Int
  | [] => ws
  | n :: r => wtsG (ws ++ [wtN ws n]) r

theorem wtsG_snoc (n : Nd) : ∀ (l : List Nd) (ws : List Int), wtsG ws (l ++ [n]) = wtsG ws l ++ [wtN (wtsG ws l) n]
  | [], ws => rfl
  | m :: r, ws => by simp only [List.cons_append, wtsG]; exact wtsG_snoc n r _
theorem wtsG_length : ∀ (l : List Nd) (ws : List Int), (wtsG ws l).length = ws.length + l.length
  | [], ws => by simp [wtsG]
  | m :: r, ws => by simp only [wtsG]; rw [wtsG_length r]; simp; omega

/-- What is wrong with a node behind others; the type that goes out. -/
def nodeN (ahead : List Nd) (ts : List Ty) (n : Nd) : Ty × Int :=
  if (n.uid ≠ [] ∧ nameS n.uid = false) ∨ nameS n.grp = false then (.mk 0 [], 6)
  else if n.uid ≠ [] ∧ ahead.any (fun o => decide (o.uid = n.uid)) = true then (.mk 0 [], 7)
  else if n.par < 1 ∨ 4 < n.par ∨ n.mx < n.par ∨ 16 < n.mx ∨ seenIn ahead [] n.ins = false then (.mk 0 [], 1)
  else match outP n.op (n.ins.map (fun i => ts.getD i.toNat (.mk 0 []))) with
    | .er e => (.mk 0 [], e)
    | .ok t => if 64 < wtN (wtsG [] ahead) n then (t, 10) else if n.op.name ≠ [] ∧ ahead.any (fun o => decide (o.op.k = n.op.k) && decide (o.op.name = n.op.name)) = true then (t, 7) else (t, 0)

/-- The types of all; or what is wrong, and where. -/
inductive Gr
  | bad (i : Nat) (e : Int)
  | ok (ts : List Ty)
def goG (ahead : List Nd) (ts : List Ty) : List Nd → Gr
  | [] => .ok ts
  | n :: r => if (nodeN ahead ts n).2 ≠ 0 then .bad ahead.length (nodeN ahead ts n).2 else goG (ahead ++ [n]) (ts ++ [(nodeN ahead ts n).1]) r

/-- Who reads a node. -/
def outsFrom (i : Int) (k : Nat) : List Nd → List Int
  | [] => []
  | n :: r => if i ∈ n.ins then (k : Int) :: outsFrom i (k + 1) r else outsFrom i (k + 1) r
def kindFrom (i : Int) (k : Nat) : List Nd → List Int
  | [] => []
  | n :: r => if n.op.k = i then (k : Int) :: kindFrom i (k + 1) r else kindFrom i (k + 1) r
/-- The first that nobody reads, and is no sink. -/
def loneFrom (g : List Nd) (i : Nat) : List Nd → Option Nat
  | [] => none
  | n :: r => if n.op.k ≠ 9 ∧ outsFrom i 0 g = [] then some i else loneFrom g (i + 1) r
def checkG (g : List Nd) : Int × Int :=
  if g = [] then (0, 3) else if 16 < g.length then (0, 10)
  else match goG [] [] g with
    | .bad i e => (i, e)
    | .ok _ => match loneFrom g 0 g with
      | some i => (i, 1)
      | none => (0, 0)
def typesG (g : List Nd) : List Ty := match goG [] [] g with
  | .bad _ _ => []
  | .ok ts => ts

/-! The law: flats behind one another. -/

abbrev grpG : List UInt8 := [103]
abbrev srcG (p m : Int) : Nd := ⟨[], ⟨1, [115], .mk 1 [], [], zeroE, 0, 0⟩, [], p, m, grpG, false⟩
abbrev flatG (i : Int) (n : Nat) : Nd := ⟨[], ⟨4, [], .mk 0 [], List.replicate n eX, zeroE, 0, 0⟩, [i], 1, 1, grpG, false⟩
abbrev sinkG (i p m : Int) : Nd := ⟨[], ⟨9, [97], .mk 0 [], [], zeroE, 0, 0⟩, [i], p, m, grpG, false⟩
def flatsG : Nat → List Nat → List Nd
  | _, [] => []
  | i, n :: r => flatG i n :: flatsG (i + 1) r
def growsG (ns : List Nat) : List Nd := srcG 1 1 :: flatsG 0 ns ++ [sinkG ns.length 1 1]
/-- Which is the first that lets out too many? -/
def badG (i : Nat) (w : Nat) : List Nat → Option Nat
  | [] => none
  | n :: r => if 64 < w * n then some (i + 1) else badG (i + 1) (w * n) r

theorem flatsG_length : ∀ (ns : List Nat) (i : Nat), (flatsG i ns).length = ns.length
  | [], i => rfl
  | n :: r, i => by simp [flatsG, flatsG_length r]
theorem flatsG_mem : ∀ (ns : List Nat) (i : Nat) (x : Nd), x ∈ flatsG i ns → ∃ (j n : Nat), x = flatG j n ∧ n ∈ ns
  | [], i, x, h => by simp [flatsG] at h
  | n :: r, i, x, h => by
    simp only [flatsG, List.mem_cons] at h
    rcases h with rfl | h
    · exact ⟨i, n, rfl, by simp⟩
    · obtain ⟨j, m, e, hm⟩ := flatsG_mem r (i + 1) x h
      exact ⟨j, m, e, by simp [hm]⟩
theorem flatsG_get : ∀ (ns : List Nat) (i k : Nat) (hk : k < ns.length), ∃ n, (flatsG i ns)[k]? = some (flatG (i + k : Nat) n)
  | [], i, k, hk => by simp at hk
  | n :: r, i, 0, hk => ⟨n, by simp [flatsG]⟩
  | n :: r, i, k + 1, hk => by
    obtain ⟨m, h⟩ := flatsG_get r (i + 1) k (by simpa using hk)
    refine ⟨m, ?_⟩
    rw [show i + 1 + k = i + (k + 1) by omega] at h
    simp only [flatsG, List.getElem?_cons_succ, h]

theorem out_flat (n : Nat) (h : 1 ≤ n ∧ n ≤ 4) : outP ⟨4, [], .mk 0 [], List.replicate n eX, zeroE, 0, 0⟩ [.mk 1 []] = .ok (.mk 1 []) := by
  have : n = 1 ∨ n = 2 ∨ n = 3 ∨ n = 4 := by omega
  rcases this with rfl | rfl | rfl | rfl <;> rfl
theorem out_sink : outP ⟨9, [97], .mk 0 [], [], zeroE, 0, 0⟩ [.mk 1 []] = .ok (.mk 1 []) := rfl
theorem out_src : outP ⟨1, [115], .mk 1 [], [], zeroE, 0, 0⟩ [] = .ok (.mk 1 []) := rfl

theorem node_flat (ahead : List Nd) (i n : Nat) (w : Nat) (hl : ahead.length = i + 1) (hk : (ahead.getD i noN).op.k ≠ 9) (hn : 1 ≤ n ∧ n ≤ 4) (hw : (wtsG [] ahead).getD i 0 = w) (hw6 : w ≤ 64) :
    nodeN ahead (List.replicate (i + 1) (.mk 1 [])) (flatG i n) = (.mk 1 [], if 64 < w * n then 10 else 0) := by
  have h1 : nameS grpG = true := by decide
  have h2 : seenIn ahead [] [(i : Int)] = true := by
    simp only [seenIn]
    rw [if_neg]
    simp only [Int.toNat_natCast, List.not_mem_nil, or_false]
    omega
  have h3 : wtN (wtsG [] ahead) (flatG i n) = (w * n : Nat) := by
    have : w * n ≤ 64 * 4 := Nat.mul_le_mul hw6 hn.2
    simp only [wtN, sumW, Int.toNat_natCast, hw, List.length_replicate]
    rw [if_neg (by decide), if_pos trivial, IntWalk.i64_in (0 + (w : Int)) (by omega), IntWalk.i64_in _ (by simp only [Int.zero_add]; omega)]
    simp
  have h4 : (List.replicate (i + 1) (Ty.mk 1 [])).getD (i : Int).toNat (.mk 0 []) = .mk 1 [] := by
    simp [List.getD_eq_getElem?_getD]
  simp only [nodeN, h1, h2, h3, List.map_cons, List.map_nil, h4, out_flat n hn]
  by_cases hb : 64 < w * n
  · simp [hb]; omega
  · simp [hb]; omega

theorem node_sink (ahead : List Nd) (i : Nat) (w : Nat) (hl : ahead.length = i + 1) (hk : ∀ x ∈ ahead, x.op.k ≠ 9) (hk0 : (ahead.getD i noN).op.k ≠ 9) (hw : (wtsG [] ahead).getD i 0 = w) (hw6 : w ≤ 64) :
    nodeN ahead (List.replicate (i + 1) (.mk 1 [])) (sinkG i 1 1) = (.mk 1 [], 0) := by
  have h1 : nameS grpG = true := by decide
  have h2 : seenIn ahead [] [(i : Int)] = true := by
    simp only [seenIn]
    rw [if_neg]
    simp only [Int.toNat_natCast, List.not_mem_nil, or_false]
    omega
  have h3 : wtN (wtsG [] ahead) (sinkG i 1 1) = w := by
    simp only [wtN, sumW, Int.toNat_natCast, hw]
    rw [if_neg (by decide), if_neg (by decide), IntWalk.i64_in _ (by omega)]
    simp
  have h4 : (List.replicate (i + 1) (Ty.mk 1 [])).getD (i : Int).toNat (.mk 0 []) = .mk 1 [] := by
    simp [List.getD_eq_getElem?_getD]
  have h5 : ahead.any (fun o => decide (o.op.k = 9) && decide (o.op.name = [97])) = false := by
    rw [Bool.eq_false_iff]
    intro h
    obtain ⟨x, hx, h⟩ := List.any_eq_true.1 h
    have := hk x hx
    simp [this] at h
  simp only [nodeN, h1, h2, h3, List.map_cons, List.map_nil, h4, out_sink, h5]
  simp; omega

theorem wt_flat (ahead : List Nd) (i n w : Nat) (hw : (wtsG [] ahead).getD i 0 = w) (hn : n ≤ 4) (hw6 : w ≤ 64) : wtN (wtsG [] ahead) (flatG i n) = (w * n : Nat) := by
  have : w * n ≤ 64 * 4 := Nat.mul_le_mul hw6 hn
  simp only [wtN, sumW, Int.toNat_natCast, hw, List.length_replicate]
  rw [if_neg (by decide), if_pos trivial, IntWalk.i64_in (0 + (w : Int)) (by omega), IntWalk.i64_in _ (by simp only [Int.zero_add]; omega)]
  simp

theorem wts_last (ahead : List Nd) (x : Nd) (i : Nat) (hl : ahead.length = i + 1) : (wtsG [] (ahead ++ [x])).getD (i + 1) 0 = wtN (wtsG [] ahead) x := by
  have : (wtsG [] ahead).length = i + 1 := by rw [wtsG_length]; simp [hl]
  rw [wtsG_snoc, List.getD_eq_getElem?_getD, List.getElem?_append_right (by omega), this]
  simp

theorem go_flats (rest : List Nd) : ∀ (ns : List Nat) (ahead : List Nd) (i w : Nat), ahead.length = i + 1 → (∀ x ∈ ahead, x.op.k ≠ 9) → (∀ n ∈ ns, 1 ≤ n ∧ n ≤ 4) → (wtsG [] ahead).getD i 0 = w → w ≤ 64 →
    (goG ahead (List.replicate (i + 1) (.mk 1 [])) (flatsG i ns ++ rest) = match badG i w ns with
      | some b => .bad b 10
      | none => goG (ahead ++ flatsG i ns) (List.replicate (i + ns.length + 1) (.mk 1 [])) rest) ∧
    (badG i w ns = none → ∃ w' : Nat, (wtsG [] (ahead ++ flatsG i ns)).getD (i + ns.length) 0 = w' ∧ w' ≤ 64)
  | [], ahead, i, w, hl, hk, hn, hw, hw6 => by simp only [flatsG, badG, List.nil_append, List.append_nil, List.length_nil, Nat.add_zero]; exact ⟨trivial, fun _ => ⟨w, hw, hw6⟩⟩
  | n :: r, ahead, i, w, hl, hk, hn, hw, hw6 => by
    have hn0 := hn n (by simp)
    have hki : (ahead.getD i noN).op.k ≠ 9 := by
      rw [List.getD_eq_getElem?_getD, List.getElem?_eq_getElem (by omega)]
      exact hk _ (List.getElem_mem _)
    have hx := node_flat ahead i n w hl hki hn0 hw hw6
    have hg : ∀ l, goG ahead (List.replicate (i + 1) (.mk 1 [])) (flatG i n :: l) = if 64 < w * n then .bad (i + 1) 10 else goG (ahead ++ [flatG i n]) (List.replicate (i + 1 + 1) (.mk 1 [])) l := by
      intro l
      rw [goG, hx, hl]
      by_cases hb : 64 < w * n
      · simp [hb]
      · simp only [if_neg hb]
        rw [if_neg (by simp), List.replicate_succ' (n := i + 1)]
    simp only [flatsG, List.cons_append, badG]
    rw [hg]
    by_cases hb : 64 < w * n
    · simp [hb]
    · simp only [if_neg hb]
      have ih := go_flats rest r (ahead ++ [flatG i n]) (i + 1) (w * n) (by simp [hl]) (fun x hx => by
        rcases List.mem_append.1 hx with h | h
        · exact hk x h
        · simp at h; subst h; show (4 : Int) ≠ 9; decide) (fun m hm => hn m (by simp [hm])) (by rw [wts_last _ _ _ hl, wt_flat _ _ _ _ hw hn0.2 hw6]) (by omega)
      have e1 : ahead ++ [flatG i n] ++ flatsG (i + 1) r = ahead ++ flatG i n :: flatsG (i + 1) r := by simp
      have e2 : i + 1 + r.length = i + (n :: r).length := by simp; omega
      rw [e1, e2] at ih
      exact ih

theorem outsFrom_nil (i : Int) : ∀ (l : List Nd) (k : Nat), outsFrom i k l = [] ↔ ∀ x ∈ l, i ∉ x.ins
  | [], k => by simp [outsFrom]
  | n :: r, k => by
    simp only [outsFrom]
    by_cases h : i ∈ n.ins
    · simp [h]
    · simp [h, outsFrom_nil i r]

theorem lone_none (g : List Nd) : ∀ (l : List Nd) (i : Nat), (∀ k (hk : k < l.length), l[k].op.k = 9 ∨ ∃ x ∈ g, ((i + k : Nat) : Int) ∈ x.ins) → loneFrom g i l = none
  | [], i, h => rfl
  | n :: r, i, h => by
    rw [loneFrom, if_neg]
    · refine lone_none g r (i + 1) (fun k hk => ?_)
      have := h (k + 1) (by simpa using hk)
      rw [show i + (k + 1) = i + 1 + k by omega] at this
      simpa using this
    · rintro ⟨h1, h2⟩
      rcases h 0 (by simp) with h0 | ⟨x, hx, h0⟩
      · exact h1 h0
      · exact (outsFrom_nil _ _ _).1 h2 x hx (by simpa using h0)

theorem grows_go (ns : List Nat) (hn : ∀ n ∈ ns, 1 ≤ n ∧ n ≤ 4) : goG [] [] (growsG ns) = match badG 0 1 ns with
    | some b => .bad b 10
    | none => .ok (List.replicate (ns.length + 2) (.mk 1 [])) := by
  have h0 : goG [] [] (growsG ns) = goG [srcG 1 1] (List.replicate (0 + 1) (.mk 1 [])) (flatsG 0 ns ++ [sinkG ns.length 1 1]) := by
    have : nodeN [] [] (srcG 1 1) = (.mk 1 [], 0) := rfl
    rw [growsG, List.cons_append, goG, this]
    simp
  obtain ⟨h1, h2⟩ := go_flats [sinkG ns.length 1 1] ns [srcG 1 1] 0 1 rfl (by simp) hn rfl (by omega)
  rw [h0, h1]
  cases hb : badG 0 1 ns with
  | some b => rfl
  | none =>
    obtain ⟨w, hw, hw6⟩ := h2 hb
    simp only
    have hl : ([srcG 1 1] ++ flatsG 0 ns).length = ns.length + 1 := by simp [flatsG_length]
    have hk : ∀ x ∈ [srcG 1 1] ++ flatsG 0 ns, x.op.k ≠ 9 := by
      intro x hx
      rcases List.mem_append.1 hx with h | h
      · simp at h; subst h; decide
      · obtain ⟨j, m, rfl, _⟩ := flatsG_mem _ _ _ h; show (4 : Int) ≠ 9; decide
    have hk0 : (([srcG 1 1] ++ flatsG 0 ns).getD ns.length noN).op.k ≠ 9 := by
      rw [List.getD_eq_getElem?_getD, List.getElem?_eq_getElem (by omega)]
      exact hk _ (List.getElem_mem _)
    rw [Nat.zero_add] at hw ⊢
    have := node_sink _ ns.length w hl hk hk0 hw hw6
    rw [goG, this, if_neg (by simp), goG]
    rw [show ns.length + 2 = ns.length + 1 + 1 from rfl, List.replicate_succ' (n := ns.length + 1)]

theorem grows_read (ns : List Nat) (k : Nat) (hk : k ≤ ns.length) : ∃ x ∈ growsG ns, ((k : Nat) : Int) ∈ x.ins := by
  rcases Nat.lt_or_ge k ns.length with h | h
  · obtain ⟨n, hn⟩ := flatsG_get ns 0 k h
    refine ⟨flatG (0 + k : Nat) n, ?_, ?_⟩
    · simp only [growsG, List.cons_append, List.mem_cons, List.mem_append]
      exact .inr (.inl (List.mem_of_getElem? hn))
    · simp
  · have : k = ns.length := by omega
    subst this
    exact ⟨sinkG ns.length 1 1, by simp [growsG], by simp⟩

theorem grows_check (ns : List Nat) (hn : ∀ n ∈ ns, 1 ≤ n ∧ n ≤ 4) (hl : ns.length ≤ 10) : checkG (growsG ns) = match badG 0 1 ns with
    | some b => ((b : Int), 10)
    | none => (0, 0) := by
  have hlen : (growsG ns).length = ns.length + 2 := by simp [growsG, flatsG_length]
  rw [checkG, if_neg (by simp [growsG]), if_neg (by omega), grows_go ns hn]
  cases hb : badG 0 1 ns with
  | some b => rfl
  | none =>
    simp only
    rw [lone_none]
    intro k hk
    rcases Nat.lt_or_ge k (ns.length + 1) with h | h
    · right
      have := grows_read ns k (by omega)
      rwa [Nat.zero_add]
    · left
      have : k = ns.length + 1 := by omega
      subst this
      have e : (growsG ns)[ns.length + 1]? = some (sinkG ns.length 1 1) := by
        simp only [growsG, List.cons_append, List.getElem?_cons_succ]
        rw [List.getElem?_append_right (by simp [flatsG_length])]
        simp [flatsG_length]
      rw [List.getElem?_eq_getElem hk] at e
      rw [Option.some.injEq] at e
      rw [e]

theorem grows_types (ns : List Nat) (hn : ∀ n ∈ ns, 1 ≤ n ∧ n ≤ 4) (hb : badG 0 1 ns = none) : (typesG (growsG ns)).length = (growsG ns).length := by
  rw [typesG, grows_go ns hn, hb]
  simp [growsG, flatsG_length]

end Go.Proofs.YtmnmiiifilfcmaaGreat
