/- How the texts over trees are reckoned: one lemma for each operation, for 'simp'; the rules for calls and loops. -/
import Derived.Test.YtiejfphchpcldaaAbsFn
import Derived.IntWalk
namespace Go.Abs

variable {P : Program} {K : AV → Prop} {K2 : AV → List Ob → Prop} {H : List Ob} {k : IntKind} {a b : Int} {bb bp : Bool}

@[simp ↓] theorem aPick_eq {x : Bool} {u v : AV} : aPick (.p (.bool x)) u v K = cond x (K u) (K v) := rfl
@[simp ↓] theorem aBin_add : aBin bb bp .add (.p (.int k a)) (.p (.int k b)) K = K (.p (.int k (k.wrap (a + b)))) := by simp [aBin, intBin]
@[simp ↓] theorem aBin_sub : aBin bb bp .sub (.p (.int k a)) (.p (.int k b)) K = K (.p (.int k (k.wrap (a - b)))) := by simp [aBin, intBin]
@[simp ↓] theorem aBin_mul : aBin bb bp .mul (.p (.int k a)) (.p (.int k b)) K = K (.p (.int k (k.wrap (a * b)))) := by simp [aBin, intBin]
@[simp ↓] theorem aBin_quo : aBin bb bp .quo (.p (.int k a)) (.p (.int k b)) K = (b ≠ 0 ∧ K (.p (.int k (k.wrap (a.tdiv b))))) := by simp [aBin, intBin]
@[simp ↓] theorem aBin_rem : aBin bb bp .rem (.p (.int k a)) (.p (.int k b)) K = (b ≠ 0 ∧ K (.p (.int k (a.tmod b)))) := by simp [aBin, intBin]
@[simp ↓] theorem aBin_shl {k' : IntKind} : aBin bb bp .shl (.p (.int k a)) (.p (.int k' b)) K = (0 ≤ b ∧ K (.p (.int k (k.wrap (a * 2 ^ (min b.toNat k.bits)))))) := rfl
@[simp ↓] theorem aBin_shr {k' : IntKind} : aBin bb bp .shr (.p (.int k a)) (.p (.int k' b)) K = (0 ≤ b ∧ K (.p (.int k (a.fdiv (2 ^ (min b.toNat k.bits)))))) := rfl
@[simp ↓] theorem aBin_and : aBin bb bp .and (.p (.int k a)) (.p (.int k b)) K = K (.p (.int k (k.wrap (BitVec.ofInt k.bits a &&& BitVec.ofInt k.bits b).toNat))) := by simp [aBin, intBin]
@[simp ↓] theorem aBin_or : aBin bb bp .or (.p (.int k a)) (.p (.int k b)) K = K (.p (.int k (k.wrap (BitVec.ofInt k.bits a ||| BitVec.ofInt k.bits b).toNat))) := by simp [aBin, intBin]
@[simp ↓] theorem aBin_xor : aBin bb bp .xor (.p (.int k a)) (.p (.int k b)) K = K (.p (.int k (k.wrap (BitVec.ofInt k.bits a ^^^ BitVec.ofInt k.bits b).toNat))) := by simp [aBin, intBin]
@[simp ↓] theorem aBin_eql : aBin bb bp .eql (.p (.int k a)) (.p (.int k b)) K = K (.p (.bool (decide (a = b)))) := by simp [aBin, intBin]; rfl
@[simp ↓] theorem aBin_neq : aBin bb bp .neq (.p (.int k a)) (.p (.int k b)) K = K (.p (.bool (decide (a ≠ b)))) := by
  simp only [aBin, intBin, true_and]
  congr 3
  cases h : decide (a ≠ b) <;> simp_all
@[simp ↓] theorem aBin_lss : aBin bb bp .lss (.p (.int k a)) (.p (.int k b)) K = K (.p (.bool (decide (a < b)))) := by simp [aBin, intBin]
@[simp ↓] theorem aBin_leq : aBin bb bp .leq (.p (.int k a)) (.p (.int k b)) K = K (.p (.bool (decide (a ≤ b)))) := by simp [aBin, intBin]
@[simp ↓] theorem aBin_gtr : aBin bb bp .gtr (.p (.int k a)) (.p (.int k b)) K = K (.p (.bool (decide (b < a)))) := by simp [aBin, intBin]
@[simp ↓] theorem aBin_geq : aBin bb bp .geq (.p (.int k a)) (.p (.int k b)) K = K (.p (.bool (decide (b ≤ a)))) := by simp [aBin, intBin]
@[simp ↓] theorem aBin_addS {x y : List UInt8} : aBin bb bp .add (.p (.str x)) (.p (.str y)) K = (x.length + y.length ≤ maxLen ∧ K (.p (.str (x ++ y)))) := rfl
@[simp ↓] theorem aBin_eqlS {x y : List UInt8} : aBin bb bp .eql (.p (.str x)) (.p (.str y)) K = K (.p (.bool (decide (x = y)))) := by
  simp only [aBin, strBin]
  congr 3
  cases h : decide (x = y) <;> simp_all
@[simp ↓] theorem aBin_neqS {x y : List UInt8} : aBin bb bp .neq (.p (.str x)) (.p (.str y)) K = K (.p (.bool (decide (x ≠ y)))) := by
  simp only [aBin, strBin]
  congr 3
  cases h : decide (x = y) <;> simp_all
@[simp ↓] theorem aBin_lssS {x y : List UInt8} : aBin bb bp .lss (.p (.str x)) (.p (.str y)) K = K (.p (.bool (Op.bytesLess x y))) := rfl
@[simp ↓] theorem aBin_eqlB {x y : Bool} : aBin true bp .eql (.p (.bool x)) (.p (.bool y)) K = K (.p (.bool (x == y))) := by simp [aBin, eqBin]
@[simp ↓] theorem aBin_neqB {x y : Bool} : aBin true bp .neq (.p (.bool x)) (.p (.bool y)) K = K (.p (.bool (!(x == y)))) := by simp [aBin, eqBin]
@[simp ↓] theorem aNil_eq1 : aNil true .eql .nils K = K (.p (.bool true)) := by simp [aNil]
@[simp ↓] theorem aNil_eq2 {es : List T} : aNil true .eql (.nns es) K = K (.p (.bool false)) := by simp [aNil]
@[simp ↓] theorem aNil_ne1 : aNil true .neq .nils K = K (.p (.bool false)) := by simp [aNil]
@[simp ↓] theorem aNil_ne2 {es : List T} : aNil true .neq (.nns es) K = K (.p (.bool true)) := by simp [aNil]
@[simp] theorem elems_nils : AV.nils.elems = some [] := rfl
@[simp] theorem elems_nns {es : List T} : (AV.nns es).elems = some es := rfl
@[simp ↓] theorem aUn_not {x : Bool} : aUn .not (.p (.bool x)) K = K (.p (.bool (!x))) := rfl
@[simp ↓] theorem aUn_neg : aUn .neg (.p (.int k a)) K = K (.p (.int k (k.wrap (0 - a)))) := rfl
@[simp ↓] theorem aConvInt_eq {k' : IntKind} : aConvInt k (.p (.int k' a)) K = K (.p (.int k (k.wrap a))) := rfl
@[simp ↓] theorem aConvStr_eq {x : List UInt8} : aConvStr (.p (.str x)) K = K (.p (.str x)) := rfl
@[simp ↓] theorem aStrBytes_eq {x : List UInt8} : aStrBytes (.p (.str x)) K = K (.p (.slice (x.map byteT))) := rfl
@[simp ↓] theorem aNilCheck_b {i o : Nat} : aNilCheck (.bptr i o) K = K (.bptr i o) := rfl
@[simp ↓] theorem aNilCheck_i {cs : List T} {o : Nat} : aNilCheck (.p (.imm cs o)) K = K (.p (.imm cs o)) := rfl
@[simp ↓] theorem aNilCheck_m {i v s j o : Nat} : aNilCheck (.mptr i v s j o) K = K (.mptr i v s j o) := rfl
@[simp ↓] theorem aNilCheck_c {f : Nat} {cs : List (Nat × Nat)} : aNilCheck (.mclo f cs) K = K (.mclo f cs) := rfl
@[simp ↓] theorem aNilCheck_f {f : Nat} {cs : List T} : aNilCheck (.p (.func f cs)) K = K (.p (.func f cs)) := rfl
@[simp ↓] theorem aFieldAddr_b {i o off : Nat} : aFieldAddr off (.bptr i o) K = K (.bptr i (o + off)) := rfl
@[simp ↓] theorem aFieldAddr_i {cs : List T} {o off : Nat} : aFieldAddr off (.p (.imm cs o)) K = K (.p (.imm cs (o + off))) := rfl
@[simp ↓] theorem aFieldAddr_m {i v s j o off : Nat} : aFieldAddr off (.mptr i v s j o) K = K (.mptr i v s j (o + off)) := rfl
@[simp ↓] theorem aField_agg {agg : Bool} {off s : Nat} {cs : List AV} : aField agg off s (.agg cs) K = (off + s ≤ cs.length ∧ K (if agg then .agg ((cs.drop off).take s) else cs.getD off .top)) := rfl
@[simp ↓] theorem aField_p {agg : Bool} {off s : Nat} {cs : List T} : aField agg off s (.p (.agg cs)) K = (off + s ≤ cs.length ∧ K (.p (if agg then .agg ((cs.drop off).take s) else cs.getD off default))) := rfl
@[simp] theorem elems_p {es : List T} : (AV.p (.slice es)).elems = some es := rfl
@[simp] theorem elems_full {es : List T} : (AV.full es).elems = some es := rfl
@[simp] theorem elems_own {i : Nat} {es : List T} : (AV.own i es).elems = some es := rfl
@[simp ↓] theorem aIndexAddr_p {s : Nat} {es : List T} : aIndexAddr s (.p (.slice es)) (.p (.int k a)) K = ((0 ≤ a ∧ a < es.length) ∧ (es.getD a.toNat default).cells.length = s ∧ K (.p (.imm (es.getD a.toNat default).cells 0))) := rfl
@[simp ↓] theorem aIndexAddr_full {s : Nat} {es : List T} : aIndexAddr s (.full es) (.p (.int k a)) K = ((0 ≤ a ∧ a < es.length) ∧ (es.getD a.toNat default).cells.length = s ∧ K (.p (.imm (es.getD a.toNat default).cells 0))) := rfl
@[simp ↓] theorem aIndexAddr_own {s i : Nat} {es : List T} : aIndexAddr s (.own i es) (.p (.int k a)) K = ((0 ≤ a ∧ a < es.length) ∧ (es.getD a.toNat default).cells.length = s ∧ K (.p (.imm (es.getD a.toNat default).cells 0))) := rfl
@[simp ↓] theorem aIndexAddr_m {s i v s' o n : Nat} : aIndexAddr s (.msl i v s' o n) (.p (.int k a)) K = (s' = s ∧ (0 ≤ a ∧ a < n) ∧ K (.mptr i v s (o + a.toNat) 0)) := rfl
@[simp ↓] theorem aIndex_eq {x : List UInt8} : aIndex (.p (.str x)) (.p (.int k a)) K = ((0 ≤ a ∧ a < x.length) ∧ K (.p (byteT (x.getD a.toNat 0)))) := rfl
@[simp ↓] theorem boundK_none {d : Int} {Q : Int → Prop} : boundK none d Q = Q d := rfl
@[simp ↓] theorem boundK_some {d : Int} {Q : Int → Prop} : boundK (some (.p (.int k a))) d Q = Q a := rfl
@[simp ↓] theorem aSlice_str {s : Nat} {x : List UInt8} {lo hi : Option AV} : aSlice true s (.p (.str x)) lo hi none K = boundK lo 0 fun l => boundK hi x.length fun h => (0 ≤ l ∧ l ≤ h ∧ h ≤ x.length) ∧ K (.p (.str ((x.take h.toNat).drop l.toNat))) := rfl
@[simp ↓] theorem aSlice_p {s : Nat} {es : List T} {lo hi mx : Option AV} : aSlice false s (.p (.slice es)) lo hi mx K = aSliceSl s es lo hi mx K := rfl
@[simp ↓] theorem aSlice_full {s : Nat} {es : List T} {lo hi mx : Option AV} : aSlice false s (.full es) lo hi mx K = aSliceSl s es lo hi mx K := rfl
@[simp ↓] theorem aSlice_own {s i : Nat} {es : List T} {lo hi mx : Option AV} : aSlice false s (.own i es) lo hi mx K = aSliceSl s es lo hi mx K := rfl
@[simp ↓] theorem aSlice_m {s i v s' o n : Nat} {lo hi mx : Option AV} : aSlice false s (.msl i v s' o n) lo hi mx K = aSliceM s i v s' o n lo hi mx K := rfl
@[simp ↓] theorem aExtract_eq {vs : List AV} {i : Nat} : aExtract (.tup vs) i K = (i < vs.length ∧ K (vs.getD i .top)) := rfl
@[simp ↓] theorem aLen_str {x : List UInt8} : aLen false true (.p (.str x)) K = (x.length ≤ maxLen → K (.p (.int .i64 x.length))) := rfl
@[simp ↓] theorem aLen_p {es : List T} : aLen false false (.p (.slice es)) K = (es.length ≤ maxLen → K (.p (.int .i64 es.length))) := rfl
@[simp ↓] theorem aLen_full {es : List T} : aLen false false (.full es) K = (es.length ≤ maxLen → K (.p (.int .i64 es.length))) := rfl
@[simp ↓] theorem aLen_own {i : Nat} {es : List T} : aLen false false (.own i es) K = (es.length ≤ maxLen → K (.p (.int .i64 es.length))) := rfl
@[simp ↓] theorem aLen_m {i v s o n : Nat} : aLen false false (.msl i v s o n) K = (n ≤ maxLen → K (.p (.int .i64 n))) := rfl
@[simp ↓] theorem aLenD_m {i v s o n : Nat} : aLen true false (.msl i v s o n) K = (n ≤ maxLen ∧ K (.p (.int .i64 n))) := rfl
@[simp ↓] theorem aLenD_str {x : List UInt8} : aLen true true (.p (.str x)) K = (x.length ≤ maxLen ∧ K (.p (.int .i64 x.length))) := rfl
@[simp ↓] theorem aLenD_p {es : List T} : aLen true false (.p (.slice es)) K = (es.length ≤ maxLen ∧ K (.p (.int .i64 es.length))) := rfl
@[simp ↓] theorem aLenD_full {es : List T} : aLen true false (.full es) K = (es.length ≤ maxLen ∧ K (.p (.int .i64 es.length))) := rfl
@[simp ↓] theorem aLenD_own {i : Nat} {es : List T} : aLen true false (.own i es) K = (es.length ≤ maxLen ∧ K (.p (.int .i64 es.length))) := rfl
@[simp ↓] theorem aBuild_eq {z : List AV} {ps : List (Nat × Nat × AV)} : aBuild z ps K = aFill z ps fun cs => K (.agg cs) := rfl
@[simp ↓] theorem aFill_nil {cs : List AV} {Q : List AV → Prop} : aFill cs [] Q = Q cs := rfl
@[simp ↓] theorem aFill_cons {cs : List AV} {off s : Nat} {v : AV} {r : List (Nat × Nat × AV)} {Q : List AV → Prop} :
    aFill cs ((off, s, v) :: r) Q = ((v.storable = true ∧ v.cells.length = s ∧ off + s ≤ cs.length) ∧ aFill (put cs off v.cells) r Q) := rfl
@[simp ↓] theorem aBuildSlice_eq {s : Nat} {vs : List AV} : aBuildSlice s vs K = aElems s vs fun es => K (.full es) := rfl
@[simp ↓] theorem aElems_nil {s : Nat} {Q : List T → Prop} : aElems s [] Q = Q [] := rfl
theorem aElems_cons {s : Nat} {v : AV} {r : List AV} {t : T} {Q : List T → Prop} (h : v.toT = some t) : aElems s (v :: r) Q = (t.cells.length = s ∧ aElems s r fun ts => Q (t :: ts)) := by simp [aElems, h]
@[simp ↓] theorem aElems_p {s : Nat} {r : List AV} {t : T} {Q : List T → Prop} : aElems s (.p t :: r) Q = (t.cells.length = s ∧ aElems s r fun ts => Q (t :: ts)) := rfl
@[simp ↓] theorem aElems_full {s : Nat} {r : List AV} {es : List T} {Q : List T → Prop} : aElems s (.full es :: r) Q = (1 = s ∧ aElems s r fun ts => Q (.slice es :: ts)) := rfl
@[simp ↓] theorem aElems_own {s i : Nat} {r : List AV} {es : List T} {Q : List T → Prop} : aElems s (.own i es :: r) Q = (1 = s ∧ aElems s r fun ts => Q (.slice es :: ts)) := rfl
@[simp ↓] theorem aElems_agg {s : Nat} {r cs : List AV} {Q : List T → Prop} : aElems s (.agg cs :: r) Q = (match allT cs with
    | some ts => ts.length = s ∧ aElems s r fun us => Q (.agg ts :: us)
    | none => False) := by
  simp only [aElems, AV.toT]
  cases allT cs <;> rfl
@[simp ↓] theorem aLoad_i {agg : Bool} {s off : Nat} {cs : List T} : aLoad agg s (.p (.imm cs off)) H K = (off + s ≤ cs.length ∧ K (.p (if agg then .agg ((cs.drop off).take s) else cs.getD off default))) := rfl
theorem aLoad_box {agg : Bool} {s i off : Nat} {cells : List AV} (h : H[i]? = some (.box cells)) : aLoad agg s (.bptr i off) H K = (off + s ≤ cells.length ∧ K (if agg then .agg ((cells.drop off).take s) else cells.getD off .top)) := by simp [aLoad, h]
theorem aLoad_fz {agg : Bool} {s i off : Nat} {cs : List T} (h : H[i]? = some (.fz cs)) : aLoad agg s (.bptr i off) H K = (off + s ≤ cs.length ∧ K (.p (if agg then .agg ((cs.drop off).take s) else cs.getD off default))) := by simp [aLoad, h]
@[simp ↓] theorem aLoad_b {agg : Bool} {s i off : Nat} : aLoad agg s (.bptr i off) H K = (match H[i]? with
    | some (.box cells) => off + s ≤ cells.length ∧ K (if agg then .agg ((cells.drop off).take s) else cells.getD off .top)
    | some (.fz cs) => off + s ≤ cs.length ∧ K (.p (if agg then .agg ((cs.drop off).take s) else cs.getD off default))
    | _ => False) := rfl
@[simp ↓] theorem aLoad_m {agg : Bool} {s i v s' j off : Nat} : aLoad agg s (.mptr i v s' j off) H K = (match H[i]? with
    | some (.mrow v2 s2 es) => (v2 = v ∧ s2 = s' ∧ j < es.length ∧ off + s ≤ s') ∧ K (.p (if agg then .agg (((es.getD j default).cells.drop off).take s) else (es.getD j default).cells.getD off default))
    | some (.frow v2 s2 es) => (v2 = v ∧ s2 = s' ∧ j < es.length ∧ off + s ≤ s') ∧ K (.p (if agg then .agg (((es.getD j default).cells.drop off).take s) else (es.getD j default).cells.getD off default))
    | _ => False) := rfl
@[simp ↓] theorem aStore_m {s i v s' j off : Nat} {u : AV} : aStore s (.mptr i v s' j off) u H K2 = (match H[i]? with
    | some (.mrow v2 s2 es) => match allT u.cells with
      | some ts => (u.storable = true ∧ ts.length = s ∧ 0 < s ∧ v2 = v ∧ s2 = s' ∧ j < es.length ∧ off + s ≤ s') ∧ K2 .top (H.set i (.mrow v s' (es.set j ((es.getD j default).putT off ts))))
      | none => False
    | _ => False) := rfl
@[simp] theorem putT_agg {cs ts : List T} {off : Nat} : (T.agg cs).putT off ts = .agg (put cs off ts) := rfl
@[simp] theorem putT_int {k k' : IntKind} {m n : Int} {off : Nat} : (T.int k m).putT off [.int k' n] = .int k' n := rfl
@[simp] theorem putT_bool {x y : Bool} {off : Nat} : (T.bool x).putT off [.bool y] = .bool y := rfl
@[simp] theorem putT_slice {x y : List T} {off : Nat} : (T.slice x).putT off [.slice y] = .slice y := rfl
@[simp] theorem putT_raw_imm {x : Value} {y : List T} {o off : Nat} : (T.raw x).putT off [.imm y o] = .imm y o := rfl
@[simp] theorem storable_msl {i v s o n : Nat} : (AV.msl i v s o n).storable = true := rfl
@[simp] theorem storable_mclo {f : Nat} {cs : List (Nat × Nat)} : (AV.mclo f cs).storable = true := rfl
@[simp] theorem cells_msl {i v s o n : Nat} : (AV.msl i v s o n).cells = [.msl i v s o n] := rfl
@[simp] theorem cells_bptr {i o : Nat} : (AV.bptr i o).cells = [.bptr i o] := rfl
@[simp] theorem cells_mclo {f : Nat} {cs : List (Nat × Nat)} : (AV.mclo f cs).cells = [.mclo f cs] := rfl
@[simp ↓] theorem aStore_b {s i off : Nat} {v : AV} : aStore s (.bptr i off) v H K2 = (match H[i]? with
    | some (.box cells) => (v.storable = true ∧ v.cells.length = s ∧ off + s ≤ cells.length) ∧ K2 .top (H.set i (.box (put cells off v.cells)))
    | _ => False) := rfl
@[simp ↓] theorem aAlloc_eq {z : List AV} : aAlloc z H K2 = K2 (.bptr H.length 0) (H ++ [.box z]) := rfl
@[simp ↓] theorem aBox_eq {v : AV} : aBox v H K2 = (v.storable = true ∧ K2 (.bptr H.length 0) (H ++ [.box v.cells])) := rfl
@[simp] theorem storable_p {t : T} : (AV.p t).storable = true := rfl
@[simp] theorem storable_full {es : List T} : (AV.full es).storable = true := rfl
@[simp] theorem storable_own {i : Nat} {es : List T} : (AV.own i es).storable = true := rfl
@[simp] theorem storable_agg {cs : List AV} : (AV.agg cs).storable = true := rfl
@[simp] theorem storable_bptr {i o : Nat} : (AV.bptr i o).storable = true := rfl
@[simp] theorem cells_full {es : List T} : (AV.full es).cells = [.full es] := rfl
@[simp] theorem cells_own {i : Nat} {es : List T} : (AV.own i es).cells = [.own i es] := rfl
@[simp] theorem cells_agg {cs : List AV} : (AV.agg cs).cells = cs := rfl
@[simp] theorem cells_p {t : T} : (AV.p t).cells = t.cells.map .p := rfl
@[simp] theorem tcells_agg {cs : List T} : (T.agg cs).cells = cs := rfl
@[simp] theorem tcells_int {n : Int} : (T.int k n).cells = [.int k n] := rfl
@[simp] theorem tcells_bool {x : Bool} : (T.bool x).cells = [.bool x] := rfl
@[simp] theorem tcells_str {x : List UInt8} : (T.str x).cells = [.str x] := rfl
@[simp] theorem tcells_slice {x : List T} : (T.slice x).cells = [.slice x] := rfl
@[simp] theorem tcells_imm {x : List T} {o : Nat} : (T.imm x o).cells = [.imm x o] := rfl
@[simp] theorem tcells_func {f : Nat} {x : List T} : (T.func f x).cells = [.func f x] := rfl
@[simp ↓] theorem aAppend_p {s eb : Nat} {x : AV} {ms : List T} : aAppend false s eb x (.p (.slice ms)) H K2 = aAppendTo s eb x ms H K2 := rfl
@[simp ↓] theorem aAppend_full {s eb : Nat} {x : AV} {ms : List T} : aAppend false s eb x (.full ms) H K2 = aAppendTo s eb x ms H K2 := rfl
@[simp ↓] theorem aAppend_own {s eb i : Nat} {x : AV} {ms : List T} : aAppend false s eb x (.own i ms) H K2 = aAppendTo s eb x ms H K2 := rfl
@[simp ↓] theorem aAppend_nns {s eb : Nat} {x : AV} {ms : List T} : aAppend false s eb x (.nns ms) H K2 = aAppendTo s eb x ms H K2 := rfl
@[simp ↓] theorem aAppend_str {s eb : Nat} {x : AV} {l : List UInt8} : aAppend true s eb x (.p (.str l)) H K2 = aAppendTo s eb x (l.map byteT) H K2 := rfl
@[simp] theorem moded_nil : moded [] = false := id rfl
@[simp] theorem moded_mode {l : List Ob} : moded (.mode :: l) = true := id rfl
@[simp] theorem moded_box {l : List Ob} {cs : List AV} : moded (.box cs :: l) = false := id rfl
@[simp] theorem moded_fz {l : List Ob} {cs : List T} : moded (.fz cs :: l) = false := id rfl
@[simp] theorem moded_row {l : List Ob} {n s : Nat} : moded (.row n s :: l) = false := id rfl
@[simp] theorem moded_mrow {l : List Ob} {v s : Nat} {es : List T} : moded (.mrow v s es :: l) = false := id rfl
@[simp] theorem moded_frow {l : List Ob} {v s : Nat} {es : List T} : moded (.frow v s es :: l) = false := id rfl
@[simp ↓] theorem aAppendTo_full {s eb : Nat} {es ms : List T} (h : moded H = false) : aAppendTo s eb (.full es) ms H K2 = (appendable s eb es ms ∧ K2 (.own H.length (es ++ ms)) (H ++ [.row (es.length + ms.length) s])) := by simp only [aAppendTo, h]
@[simp ↓] theorem aAppendTo_fullM {s eb : Nat} {es ms : List T} (h : moded H = true) : aAppendTo s eb (.full es) ms H K2 = ((es = [] ∧ appendable s eb [] ms) ∧ K2 (.msl H.length 0 s 0 ms.length) (H ++ [.mrow 0 s ms])) := by simp only [aAppendTo, h]
@[simp ↓] theorem aAppendTo_m {s eb i v s' n : Nat} {ms : List T} : aAppendTo s eb (.msl i v s' 0 n) ms H K2 = (match H[i]? with
    | some (.mrow v2 s2 es) => (v2 = v ∧ s' = s ∧ s2 = s ∧ n ≤ es.length) ∧ appendable s eb (es.take n) ms ∧ K2 (.msl i (v + 1) s 0 (n + ms.length)) (H.set i (.mrow (v + 1) s (es.take n ++ ms)))
    | _ => False) := rfl
@[simp ↓] theorem aAppend_m {s eb i v s' o n : Nat} {x : AV} : aAppend false s eb x (.msl i v s' o n) H K2 = (match H[i]? with
    | some (.mrow v2 s2 es) => (v2 = v ∧ s2 = s' ∧ o + n ≤ es.length) ∧ aAppendTo s eb x ((es.drop o).take n) H K2
    | some (.frow v2 s2 es) => (v2 = v ∧ s2 = s' ∧ o + n ≤ es.length) ∧ aAppendTo s eb x ((es.drop o).take n) H K2
    | _ => False) := rfl
@[simp ↓] theorem aCalm_nil {p : Prop} : aCalm [] p = p := rfl
@[simp ↓] theorem aCalm_p {p : Prop} {l : List AV} {t : T} : aCalm ((.p t) :: l) p = aCalm l p := rfl
@[simp ↓] theorem aCalm_full {p : Prop} {l : List AV} {es : List T} : aCalm ((.full es) :: l) p = aCalm l p := rfl
@[simp ↓] theorem aCalm_own {p : Prop} {l : List AV} {i : Nat} {es : List T} : aCalm ((.own i es) :: l) p = aCalm l p := rfl
@[simp ↓] theorem aCalm_bptr {p : Prop} {l : List AV} {i o : Nat} : aCalm ((.bptr i o) :: l) p = aCalm l p := rfl
@[simp ↓] theorem aCalm_nils {p : Prop} {l : List AV} : aCalm (.nils :: l) p = aCalm l p := rfl
@[simp ↓] theorem aCalm_nns {p : Prop} {l : List AV} {es : List T} : aCalm ((.nns es) :: l) p = aCalm l p := rfl
@[simp ↓] theorem aCalm_agg {p : Prop} {l : List AV} {vs : List AV} : aCalm ((.agg vs) :: l) p = aCalm l p := rfl
@[simp ↓] theorem aCalm_top {p : Prop} {l : List AV} : aCalm (.top :: l) p = aCalm l p := rfl
@[simp ↓] theorem aCalm_mclo {p : Prop} {l : List AV} {i : Nat} {cs : List (Nat × Nat)} : aCalm ((.mclo i cs) :: l) p = aCalm l p := rfl
@[simp ↓] theorem aCalm_mptr {p : Prop} {l : List AV} {i v s j o : Nat} : aCalm ((.mptr i v s j o) :: l) p = aCalm l p := rfl
@[simp ↓] theorem aAppendTo_own {s eb i : Nat} {es ms : List T} : aAppendTo s eb (.own i es) ms H K2 = (match H[i]? with
    | some (.row n s') => (s' = s ∧ n = es.length) ∧ appendable s eb es ms ∧ K2 (.own i (es ++ ms)) (H.set i (.row (n + ms.length) s))
    | _ => False) := rfl
@[simp ↓] theorem aMakeFunc_eq {f : Nat} {caps : List AV} (h : moded H = false) : aMakeFunc f caps H K2 = aFreeze caps H fun cs H' => K2 (.p (.func f cs)) H' := by simp only [aMakeFunc, h]
@[simp ↓] theorem aMakeFunc_nil {f : Nat} : aMakeFunc f [] H K2 = K2 (.p (.func f [])) H := by
  simp only [aMakeFunc, boxes]
  cases moded H <;> rfl
@[simp ↓] theorem aMakeFunc_M {f i o : Nat} {caps : List AV} {cs : List (Nat × Nat)} (h : moded H = true) (hb : boxes caps = some cs) : aMakeFunc f (.bptr i o :: caps) H K2 = K2 (.mclo f ((i, o) :: cs)) H := by simp only [aMakeFunc, h, boxes, hb]
attribute [simp] boxes
@[simp ↓] theorem aFreeze_nil {Q : List T → List Ob → Prop} : aFreeze [] H Q = Q [] H := rfl
@[simp ↓] theorem aFreeze_b {i o : Nat} {r : List AV} {Q : List T → List Ob → Prop} : aFreeze (.bptr i o :: r) H Q = (match H[i]? with
    | some (.box cells) => match allT cells with
      | some ts => aFreeze r (H.set i (.fz ts)) fun cs H' => Q (.imm ts o :: cs) H'
      | none => False
    | some (.fz ts) => aFreeze r H fun cs H' => Q (.imm ts o :: cs) H'
    | _ => False) := rfl
@[simp ↓] theorem aFreeze_i {ts : List T} {o : Nat} {r : List AV} {Q : List T → List Ob → Prop} : aFreeze (.p (.imm ts o) :: r) H Q = aFreeze r H fun cs H' => Q (.imm ts o :: cs) H' := rfl
@[simp ↓] theorem aGuard_eq {x : Bool} {A B : Prop} : aGuard (.p (.bool x)) A B = ((x = true → A) ∧ (x = false → B)) := by cases x <;> simp [aGuard]

@[simp ↓] theorem aLenS_str {x : List UInt8} : aLenS true (.p (.str x)) K = K (.p (.int .i64 x.length)) := rfl
@[simp ↓] theorem aLenS_p {es : List T} : aLenS false (.p (.slice es)) K = K (.p (.int .i64 es.length)) := rfl
@[simp ↓] theorem aLenS_full {es : List T} : aLenS false (.full es) K = K (.p (.int .i64 es.length)) := rfl
@[simp ↓] theorem aLenS_m {i v s o n : Nat} : aLenS false (.msl i v s o n) K = K (.p (.int .i64 n)) := rfl
@[simp ↓] theorem aLenS_own {i : Nat} {es : List T} : aLenS false (.own i es) K = K (.p (.int .i64 es.length)) := rfl

/-- What is behind a merge is looked at when its truth is known. -/
@[congr] theorem aMerge_congr {w : Bool} {x x' : AV} {E E' : (AV → Prop) → Prop} (hx : x = x') (hE : E = E') : aMerge w x E K = aMerge w x' E' K := by subst hx hE; rfl

@[simp] theorem aMerge_and {w x : Bool} {p : Prop} {E : (AV → Prop) → Prop} : aMerge w (.p (.bool x)) (fun Q => p ∧ E Q) K = ((x = w → p) ∧ aMerge w (.p (.bool x)) E K) := by
  apply propext
  simp only [aMerge]
  constructor
  · rintro ⟨c, h1, h2⟩
    exact ⟨fun h => (h1 h).1, c, fun h => (h1 h).2, h2⟩
  · rintro ⟨h0, c, h1, h2⟩
    exact ⟨c, fun h => ⟨h0 h, h1 h⟩, h2⟩

@[simp] theorem aMerge_and_r {w x : Bool} {p : Prop} {E : (AV → Prop) → Prop} : aMerge w (.p (.bool x)) (fun Q => E Q ∧ p) K = ((x = w → p) ∧ aMerge w (.p (.bool x)) E K) := by
  rw [← aMerge_and]
  congr 1
  funext Q
  exact propext And.comm

@[simp] theorem aMerge_end {w x e : Bool} : aMerge w (.p (.bool x)) (fun Q => Q (.p (.bool e))) K = K (.p (.bool (cond w (x && e) (x || e)))) := by
  apply propext
  simp only [aMerge]
  constructor
  · rintro ⟨c, h1, h2⟩
    by_cases h : x = w
    · have := h1 h
      simp at this
      subst this
      exact h2
    · cases w <;> cases x <;> simp_all
  · intro h
    exact ⟨e, fun _ => rfl, h⟩

theorem aMerge_intro {w x : Bool} {E : (AV → Prop) → Prop} (c : Bool) (hE : x = w → E fun v => v = .p (.bool c)) (hK : K (.p (.bool (cond w (x && c) (x || c))))) : aMerge w (.p (.bool x)) E K := ⟨c, hE, hK⟩

attribute [simp] allT AV.cellT toTs AV.toT AV.ren AV.ren1 Ob.ren put

/- What comes behind a call is left as it is: 'simp' does not look into an instance. -/
class Cont where
  k : AV → List Ob → Prop
class ContT where
  k : AV → Prop
def aCallW (P : Program) (fv : AV) (args : List AV) (H : List Ob) [c : Cont] : Prop := aCall P fv args H c.k
def aCallTW (P : Program) (fv : AV) (args : List AV) [c : ContT] : Prop := aCallT P fv args c.k
@[simp ↓] theorem aCall_W {fv : AV} {args : List AV} : aCall P fv args H K2 = @aCallW P fv args H ⟨K2⟩ := rfl
@[simp ↓] theorem aCallT_W {fv : AV} {args : List AV} : aCallT P fv args K = @aCallTW P fv args ⟨K⟩ := rfl

theorem gives_p {t t' : T} (h : t = t') : Gives 0 (.p t) H (.p t') [] := by subst h; exact gives_pure rfl

theorem aCall_of {fv : AV} {args : List AV} {f : Nat} {caps ts : List T} {r : AV} {Hn : List Ob} (hf : fv = .p (.func f caps)) (ha : toTs args = some ts) (h : Fn P f [] ((ts ++ caps).map .p) r Hn)
    (hk : K2 (r.shift H.length) (H ++ Hn.map (Ob.shift H.length))) : aCall P fv args H K2 := ⟨_, _, callDoes_tree hf ha h, hk⟩

theorem aCallW_of {c : Cont} {fv : AV} {args : List AV} {f : Nat} {caps ts : List T} {r : AV} {Hn : List Ob} (hf : fv = .p (.func f caps)) (ha : toTs args = some ts) (h : Fn P f [] ((ts ++ caps).map .p) r Hn)
    (hk : c.k (r.shift H.length) (H ++ Hn.map (Ob.shift H.length))) : aCallW P fv args H := aCall_of hf ha h hk

/-- A call with pointers: the contract is over the whole abstract heap. -/
theorem aCallH_of {c : Cont} {args : List AV} {f : Nat} {caps : List T} {r : AV} {Hout : List Ob} (_ : toTs args = none) (h : Fn P f H (args ++ caps.map .p) r Hout) (hk : c.k r Hout) : aCallW P (.p (.func f caps)) args H := ⟨_, _, callDoes_heap rfl h, hk⟩

theorem aCallM_of {c : Cont} {fv : AV} {args caps : List AV} {f : Nat} {r : AV} {Hout : List Ob} (hc : capsOf fv = some (f, caps)) (h : Fn P f H (args ++ caps) r Hout) (hk : c.k r Hout) : aCallW P fv args H := ⟨_, _, callDoes_heap hc h, hk⟩

/-- A call over a few objects. -/
theorem aCallF_of {c : Cont} {fv : AV} {args caps args0 : List AV} {f : Nat} {r : AV} {Hin Hout : List Ob} (ids : List Nat) (h : Fn P f Hin args0 r Hout) (hc : capsOf fv = some (f, caps)) (ha : args ++ caps = args0.map (AV.ren (renF H ids))) (hnd : ids.Nodup)
    (hf : framed (renF H ids) H ids Hin) (hu : args0.all (AV.under ids.length) = true) (hb : Hin.all (Ob.below ids.length) = true) (hk : c.k (r.ren (renF H ids)) (frameH H ids (Hout.map (Ob.ren (renF H ids))))) : aCallW P fv args H :=
  ⟨_, _, callDoes_frame ids hc h ha hnd hf hu hb, hk⟩

/-- A row that the call gets as a tree. -/
theorem aCallZ_of {c : Cont} {fv : AV} {args : List AV} {id ver s : Nat} {es : List T} (ho : H[id]? = some (.mrow ver s es)) (h : @aCallW P (fv.unm id ver es) (args.map (AV.unm id ver es)) (H.set id (.frow ver s es)) c) : aCallW P fv args H := by
  obtain ⟨r, H', h1, h2⟩ := h
  exact ⟨r, H', callDoes_freeze ho h1, h2⟩

/-- A call of a function that answers with a tree. -/
theorem aCall_p {c : Cont} {args : List AV} {f : Nat} {caps ts : List T} {t : T} (ha : toTs args = some ts) (h : Fn P f [] ((ts ++ caps).map .p) (.p t) [])
    (hk : c.k (.p t) H) : aCallW P (.p (.func f caps)) args H := aCall_of rfl ha h (by simpa using hk)

theorem aCallT_of {c : ContT} {args : List AV} {f : Nat} {caps ts : List T} {r r' : AV} {Hn : List Ob} (ha : toTs args = some ts) (h : Fn P f [] ((ts ++ caps).map .p) r Hn) (hr : r.pur = some r') (hk : c.k r') :
    aCallTW P (.p (.func f caps)) args := by
  simp only [aCallTW, aCallT, ha]
  exact ⟨r, Hn, r', h, hr, hk⟩

theorem allN_intro {n : Nat} {p : List AV → Prop} (h : ∀ xs : List AV, xs.length = n → p xs) : allN n p := by
  induction n generalizing p with
  | zero => exact h [] rfl
  | succ n ih => exact fun x => ih fun xs hx => h (x :: xs) (by simp [hx])

theorem exists_least (p : Nat → Prop) : ∀ n, p n → ∃ n, p n ∧ ∀ m, p m → n ≤ m := by
  intro n
  induction n using Nat.strongRecOn with
  | ind n ih =>
    intro h
    by_cases hx : ∃ m, m < n ∧ p m
    · obtain ⟨m, hm, hp⟩ := hx
      exact ih m hm hp
    · exact ⟨n, h, fun m hm => Nat.le_of_not_lt fun hl => hx ⟨m, hl, hm⟩⟩

open Classical in
noncomputable def least (p : Nat → Prop) : Nat := if h : ∃ n, p n ∧ ∀ m, p m → n ≤ m then h.choose else 0

theorem least_spec {p : Nat → Prop} {n : Nat} (h : p n) : p (least p) ∧ ∀ m, p m → least p ≤ m := by
  have hx := exists_least p n h
  simp only [least, hx, dif_pos]
  exact hx.choose_spec

theorem le1_refl (x : AV) : x.le1 x := by
  cases x with
  | p t => exact rfl
  | top => exact trivial
  | _ => exact rfl

theorem all2_refl {α : Type} {R : α → α → Prop} (h : ∀ x, R x x) : ∀ xs : List α, all2 R xs xs
  | [] => trivial
  | x :: xs => ⟨h x, all2_refl h xs⟩

theorem le_refl (x : AV) : x.le x := by
  cases x with
  | agg cs => exact all2_refl le1_refl cs
  | _ => unfold AV.le; exact le1_refl _

theorem leO_refl (x : Ob) : x.le x := by
  cases x with
  | box cs => exact all2_refl le1_refl cs
  | mrow v s es => exact ⟨rfl, rfl, List.prefix_rfl⟩
  | _ => exact rfl

theorem ghosts_mono : ∀ (gs : List Gc) (t : List AV) (H : List Ob) (A B : List AV → List Ob → Prop), (∀ t H, A t H → B t H) → ghosts gs t H A → ghosts gs t H B := by
  intro gs
  induction gs with
  | nil => exact fun t H A B h => h t H
  | cons g gs ih =>
    intro t H A B h hx
    simp only [ghosts] at hx ⊢
    cases g with
    | slot i s =>
      simp only [ghost] at hx ⊢
      split at hx
      · exact ih _ _ _ _ h hx
      · exact ⟨hx.1, ih _ _ _ _ h hx.2⟩
      · exact hx.elim
    | cell id off s =>
      simp only [ghost] at hx ⊢
      split at hx
      · split at hx
        · exact ih _ _ _ _ h hx
        · exact hx.elim
      · exact hx.elim
    | mslot i s =>
      simp only [ghost] at hx ⊢
      split at hx
      · exact ih _ _ _ _ h hx
      · exact hx.elim
    | mcell id off s =>
      simp only [ghost] at hx ⊢
      split at hx
      · split at hx
        · exact ih _ _ _ _ h hx
        · exact hx.elim
      · exact hx.elim

/-- A loop by its states: what the slots and the objects are in each, or less. -/
theorem loop_le {σ : Type} {k n : Nat} {xs0 : List AV} {body : List AV → List Ob → (List AV → List Ob → Prop) → Prop} (St : σ → List AV) (Hs : σ → List Ob) (I : σ → Prop) (m : σ → Nat) (gs : List Gc) (s0 : σ)
    (hn : ∀ s, (Hs s).length = n) (h0 : ghosts gs xs0 H fun xs H' => all2 AV.le xs (St s0) ∧ all2 Ob.le H' (Hs s0)) (i0 : I s0)
    (hb : ∀ s (B : List AV → List Ob → Prop), I s → (∀ s' xs H2, I s' → m s' < m s → all2 AV.le xs (St s') → all2 Ob.le (H2.take n) (Hs s') → n ≤ H2.length → (St s').all (AV.under n) = true → (Hs s').all (Ob.below n) = true → B xs H2) → body (St s) (Hs s) B) :
    aLoopN k xs0 H body := by
  refine ⟨n, fun xs H' => ∃ s, I s ∧ xs = St s ∧ H' = Hs s, fun xs H' => least fun v => ∃ s, I s ∧ xs = St s ∧ H' = Hs s ∧ m s = v, ⟨gs, ghosts_mono _ _ _ _ _ (fun t H' ⟨h1, h2⟩ => ⟨_, _, h1, h2, hn s0, s0, i0, rfl, rfl⟩) h0⟩, allN_intro fun xs hx H1 hl hI => ?_⟩
  obtain ⟨s1, hs1, rfl, rfl⟩ := hI
  obtain ⟨⟨s, hs, e1, e2, e3⟩, _⟩ := least_spec (p := fun v => ∃ s, I s ∧ St s1 = St s ∧ Hs s1 = Hs s ∧ m s = v) ⟨s1, hs1, rfl, rfl, rfl⟩
  rw [e1, e2]
  rw [e1, e2] at e3
  refine hb s _ hs (fun s' xs' H2 h1 h2 h3 h4 h5 h6 h7 => ⟨_, _, ⟨h3, h4, h5⟩, ⟨h6, h7⟩, ⟨s', h1, rfl, rfl⟩, ?_⟩)
  have := (least_spec (p := fun v => ∃ t, I t ∧ St s' = St t ∧ Hs s' = Hs t ∧ m t = v) ⟨s', h1, rfl, rfl, rfl⟩).2 (m s') ⟨s', h1, rfl, rfl, rfl⟩
  exact Nat.lt_of_le_of_lt this (Nat.lt_of_lt_of_eq h2 e3)

attribute [simp] all2 AV.le AV.le1
@[simp] theorem leO_self {x : Ob} : x.le x ↔ True := ⟨fun _ => trivial, fun _ => leO_refl x⟩
@[simp] theorem leO_box {cs ds : List AV} : (Ob.box cs).le (.box ds) = all2 AV.le1 cs ds := rfl
@[simp] theorem leO_mrow {v v' s s' : Nat} {es es' : List T} : (Ob.mrow v s es).le (.mrow v' s' es') = (v = v' ∧ s = s' ∧ es' <+: es) := rfl
@[simp] theorem leO_row {n n' s s' : Nat} : (Ob.row n s).le (.row n' s') = (n = n' ∧ s = s') := by simp [Ob.le]
@[simp] theorem leO_fz {cs ds : List T} : (Ob.fz cs).le (.fz ds) = (cs = ds) := by simp [Ob.le]

/-- A loop by its states: what the slots and the objects are in each. -/
theorem loop_by {σ : Type} {k n : Nat} {xs0 : List AV} {body : List AV → List Ob → (List AV → List Ob → Prop) → Prop} (St : σ → List AV) (Hs : σ → List Ob) (I : σ → Prop) (m : σ → Nat) (gs : List Gc) (s0 : σ)
    (hn : ∀ s, (Hs s).length = n) (h0 : ghosts gs xs0 H fun xs H' => xs = St s0 ∧ H' = Hs s0) (i0 : I s0)
    (hb : ∀ s (B : List AV → List Ob → Prop), I s → (∀ s' H2, I s' → m s' < m s → H2.take n = Hs s' → (H2.take n).all (Ob.below n) = true → n ≤ H2.length → (St s').all (AV.under n) = true → B (St s') H2) → body (St s) (Hs s) B) :
    aLoopN k xs0 H body := by
  refine loop_le St Hs I m gs s0 hn (ghosts_mono _ _ _ _ _ (fun t H' h => by rw [h.1, h.2]; exact ⟨all2_refl le_refl _, all2_refl leO_refl _⟩) h0) i0 (fun s B hs hB => hb s B hs (fun s' H2 h1 h2 h3 h4 h5 h6 => ?_))
  refine hB s' _ H2 h1 h2 (all2_refl le_refl _) (by rw [h3]; exact all2_refl leO_refl _) h5 h6 (by rw [← h3]; exact h4)

end Go.Abs
