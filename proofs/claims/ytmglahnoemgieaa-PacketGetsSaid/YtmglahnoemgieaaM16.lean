/- What the arguments of the laws are: places, values, edges, messages. (And what follows from it, text by text.) -/
import Derived.Test.YtmglahnoemgieaaM15
import Derived.ProofKit
import Derived.Deep.Slices
import Derived.Test.YtmglahnoemgieaaRows
namespace Go.Proofs.Ytmglahnoemgieaa.Ax
open Go Go.RowKit
set_option linter.unusedSimpArgs false
set_option linter.unusedVariables false
set_option linter.unnecessarySimpa false
set_option maxHeartbeats 8000000
set_option maxRecDepth 4000
variable {H' : Type} {enc : TypeId × Value → H'} {W : World} {held : Bool} {fuel : Nat} {cs : List Value}
theorem cells2 : Try.prog.cellsOf 2 = 1 := by kernel_rfl
theorem cells3 : Try.prog.cellsOf 3 = 1 := by kernel_rfl
theorem cells4 : Try.prog.cellsOf 4 = 1 := by kernel_rfl
theorem cells9 : Try.prog.cellsOf 9 = 1 := by kernel_rfl
theorem cells23 : Try.prog.cellsOf 23 = 4 := by kernel_rfl
theorem cells25 : Try.prog.cellsOf 25 = 5 := by kernel_rfl
theorem cells26 : Try.prog.cellsOf 26 = 1 := by kernel_rfl
theorem cells28 : Try.prog.cellsOf 28 = 13 := by kernel_rfl
theorem cells80 : Try.prog.cellsOf 80 = 1 := by kernel_rfl
theorem cells82 : Try.prog.cellsOf 82 = 5 := by kernel_rfl
theorem trod_fields {P : Program} {w : World} {base : Nat} {spare : Nat → Bool} {t : TypeId} {fs : Array Field} {x : DataW H' × List MemPlace} (ht : P.underlying t = some (.struct fs)) (h : DataW.trod enc P w base spare held fuel t cs = some x) :
    cs.length = P.cellsOf t ∧ ∃ n, ∀ (i ty off : Nat), (fs[i]?).map (fun f => (f.type, f.offset)) = some (ty, off) → ∃ y, DataW.trod enc P w base spare held n ty ((cs.drop off).take (P.cellsOf ty)) = some y := by
  obtain ⟨xs, n, _, _, hl, hx, hf⟩ := DataW.trod_struct ht h
  refine ⟨hl, n, fun i ty off hi' => ?_⟩
  simp only [Option.map_eq_some_iff] at hi'
  obtain ⟨f, hi, he⟩ := hi'
  cases he
  have hlt : i < xs.length := by
    rw [hx]
    obtain ⟨h1, _⟩ := Array.getElem?_eq_some_iff.1 hi
    exact h1
  exact ⟨xs[i], by rw [hf i f hi]; exact List.getElem?_eq_getElem hlt⟩
theorem foreign_of {w : World} {a : Addr} : ∀ (n i : Nat) (l : List Value), l.length = n → (∀ j v, l[j]? = some v → w.cell? (a.add (i + j)) = some v) → foreignA w a i n = some (l.map .val)
  | 0, i, l, hl, _ => by
    match l, hl with
    | [], _ => rfl
  | n + 1, i, l, hl, h => by
    match l, hl with
    | v :: l, hl =>
      have h0 := h 0 v rfl
      rw [Nat.add_zero] at h0
      have := foreign_of n (i + 1) l (by simpa using hl) (fun j u hu => by
        have := h (j + 1) u (by simpa using hu)
        rwa [show i + (j + 1) = i + 1 + j from by omega] at this)
      simp only [foreignA, h0, this, Option.map_some, List.map_cons]
theorem foreign_cells {w : World} {base : Nat} {a : Addr} {n : Nat} {l : List Value} (h : w.cells? base a n = some l) : foreignA w a 0 n = some (l.map .val) := by
  obtain ⟨h1, h2, h3⟩ := World.cells?_some h
  refine foreign_of n 0 l h2 fun j v hj => ?_
  rw [Nat.zero_add, h3 j (by rw [← h2]; exact (List.getElem?_eq_some_iff.1 hj).1)]
  exact hj
theorem trod_int3 {w : World} {base : Nat} {spare : Nat → Bool} {x : DataW H' × List MemPlace} (h : DataW.trod enc Try.prog w base spare held fuel 3 cs = some x) : ∃ n, cs = [.int .i64 n] := by
  obtain ⟨n, h1, _⟩ := DataW.trod_int Try.underlying3 h
  exact ⟨n, h1⟩
theorem trod_int2 {w : World} {base : Nat} {spare : Nat → Bool} {x : DataW H' × List MemPlace} (h : DataW.trod enc Try.prog w base spare held fuel 2 cs = some x) : ∃ n, cs = [.int .i64 n] := by
  obtain ⟨n, h1, _⟩ := DataW.trod_int Try.underlying2 h
  exact ⟨n, h1⟩
theorem trod_str9 {w : World} {base : Nat} {spare : Nat → Bool} {x : DataW H' × List MemPlace} (h : DataW.trod enc Try.prog w base spare held fuel 9 cs = some x) : ∃ s, cs = [.string s] := by
  obtain ⟨s, h1, _⟩ := DataW.trod_string Try.underlying9 h
  exact ⟨s, h1⟩
theorem trod_bool4 {w : World} {base : Nat} {spare : Nat → Bool} {x : DataW H' × List MemPlace} (h : DataW.trod enc Try.prog w base spare held fuel 4 cs = some x) : ∃ b, cs = [.bool b] := by
  obtain ⟨b, h1, _⟩ := DataW.trod_bool Try.underlying4 h
  exact ⟨b, h1⟩
theorem trod_place {w : World} {base : Nat} {spare : Nat → Bool} {x : DataW H' × List MemPlace} (h : DataW.trod enc Try.prog w base spare held fuel 23 cs = some x) : ∃ p : Pl, cs = [.string p.book, .string p.sheet, .int .i64 p.col, .int .i64 p.row] := by
  obtain ⟨hl, n, hf⟩ := trod_fields Try.underlying23 h
  rw [cells23] at hl
  match cs, hl with
  | [c0, c1, c2, c3], _ =>
    obtain ⟨_, e0⟩ := hf 0 9 0 rfl
    obtain ⟨_, e1⟩ := hf 1 9 1 rfl
    obtain ⟨_, e2⟩ := hf 2 3 2 rfl
    obtain ⟨_, e3⟩ := hf 3 3 3 rfl
    rw [cells9] at e0 e1
    rw [cells3] at e2 e3
    obtain ⟨a0, q0⟩ := trod_str9 e0
    obtain ⟨a1, q1⟩ := trod_str9 e1
    obtain ⟨a2, q2⟩ := trod_int3 e2
    obtain ⟨a3, q3⟩ := trod_int3 e3
    cases q0; cases q1; cases q2; cases q3
    exact ⟨⟨a0, a1, a2, a3⟩, rfl⟩
theorem trod_val {w : World} {base : Nat} {spare : Nat → Bool} {x : DataW H' × List MemPlace} (h : DataW.trod enc Try.prog w base spare held fuel 25 cs = some x) : ∃ v : Val, cs = [.int .i64 v.1, .int .i64 v.2.1, .string v.2.2.1, .bool v.2.2.2.1, .int .i64 v.2.2.2.2] := by
  obtain ⟨hl, n, hf⟩ := trod_fields Try.underlying25 h
  rw [cells25] at hl
  match cs, hl with
  | [c0, c1, c2, c3, c4], _ =>
    obtain ⟨_, e0⟩ := hf 0 3 0 rfl
    obtain ⟨_, e1⟩ := hf 1 2 1 rfl
    obtain ⟨_, e2⟩ := hf 2 9 2 rfl
    obtain ⟨_, e3⟩ := hf 3 4 3 rfl
    obtain ⟨_, e4⟩ := hf 4 3 4 rfl
    rw [cells3] at e0 e4
    rw [cells2] at e1
    rw [cells9] at e2
    rw [cells4] at e3
    obtain ⟨a0, q0⟩ := trod_int3 e0
    obtain ⟨a1, q1⟩ := trod_int2 e1
    obtain ⟨a2, q2⟩ := trod_str9 e2
    obtain ⟨a3, q3⟩ := trod_bool4 e3
    obtain ⟨a4, q4⟩ := trod_int3 e4
    cases q0; cases q1; cases q2; cases q3; cases q4
    exact ⟨(a0, a1, a2, a3, a4), rfl⟩
/-- a family named -/
theorem choose_list {α : Type} {p : Nat → α → Prop} : ∀ (n : Nat), (∀ i, i < n → ∃ x, p i x) → ∃ l : List α, l.length = n ∧ ∀ i x, l[i]? = some x → p i x
  | 0, _ => ⟨[], rfl, fun i x h => by simp at h⟩
  | n + 1, h => by
    obtain ⟨l, h1, h2⟩ := choose_list n (fun i hi => h i (by omega))
    obtain ⟨x, hx⟩ := h n (by omega)
    refine ⟨l ++ [x], by simp [h1], fun i y hi => ?_⟩
    by_cases q : i < l.length
    · rw [List.getElem?_append_left q] at hi; exact h2 i y hi
    · have : i = n := by
        have := (List.getElem?_eq_some_iff.1 hi).1
        simp at this; omega
      subst this
      rw [List.getElem?_append_right (by omega), h1, Nat.sub_self] at hi
      simp at hi
      subst hi; exact hx
theorem trod_reads {w : World} {spare : Nat → Bool} {x : DataW H' × List MemPlace} (h : DataW.trod enc Try.prog w 0 spare held fuel 80 cs = some x) : ∃ rs l, cs = [rs] ∧ FPls w rs l ∧ noBx (.val rs) = true ∧ oneA (.val rs) = true := by
  rcases Go.Deep.open_slice Try.underlying80 h with ⟨rfl, _⟩ | ⟨a, len, cap, m, n, D, Pl', rfl, _, hl, hm, hmm, _, hx⟩
  · exact ⟨_, [], rfl, ⟨none, 0, rfl, Nat.le_refl _, fun i p hi => by simp at hi⟩, rfl, rfl⟩
  · have hle : len ≤ m := by rw [hmm]; split <;> omega
    obtain ⟨l, h1, h2⟩ := choose_list (p := fun i (p : Pl) => FPl w (a.add (i * 4)) p) len (fun i hi => by
      obtain ⟨cs', q1, q2⟩ := hx i (by omega)
      obtain ⟨p, rfl⟩ := trod_place q2
      rw [cells23] at q1
      exact ⟨p, foreign_cells q1⟩)
    exact ⟨_, l, rfl, ⟨some a, cap, by rw [h1], by omega, fun i p hi => ⟨a, rfl, h2 i p hi⟩⟩, rfl, rfl⟩
theorem trod_edge {w : World} {spare : Nat → Bool} {x : DataW H' × List MemPlace} (h : DataW.trod enc Try.prog w 0 spare held fuel 82 cs = some x) :
    ∃ (e : XE) (rs : Value), cs = [.string e.book, .string e.sheet, .int .i64 e.col, .int .i64 e.row, rs] ∧ FPls w rs e.reads ∧ noBx (.val rs) = true ∧ oneA (.val rs) = true := by
  obtain ⟨hl, n, hf⟩ := trod_fields Try.underlying82 h
  rw [cells82] at hl
  match cs, hl with
  | [c0, c1, c2, c3, c4], _ =>
    obtain ⟨_, e0⟩ := hf 0 23 0 rfl
    obtain ⟨_, e1⟩ := hf 1 80 4 rfl
    rw [cells23] at e0
    rw [cells80] at e1
    obtain ⟨p, q0⟩ := trod_place e0
    obtain ⟨rs, l, q1, q2, q3, q4⟩ := trod_reads e1
    cases q0; cases q1
    exact ⟨⟨p.book, p.sheet, p.col, p.row, l⟩, _, rfl, q2, q3, q4⟩
theorem trod_edges {w : World} {spare : Nat → Bool} {x : DataW H' × List MemPlace} (h : DataW.trod enc Try.prog w 0 spare held fuel 26 cs = some x) : ∃ es l, cs = [es] ∧ FEds w es l := by
  rcases Go.Deep.open_slice Try.underlying26 h with ⟨rfl, _⟩ | ⟨a, len, cap, m, n, D, Pl', rfl, _, hl, hm, hmm, _, hx⟩
  · exact ⟨_, [], rfl, ⟨none, 0, rfl, Nat.le_refl _, fun i p hi => by simp at hi⟩⟩
  · have hle : len ≤ m := by rw [hmm]; split <;> omega
    obtain ⟨l, h1, h2⟩ := choose_list (p := fun i (e : XE) => FEd w (a.add (i * 5)) e) len (fun i hi => by
      obtain ⟨cs', q1, q2⟩ := hx i (by omega)
      obtain ⟨e, rs, rfl, q3, q4, q5⟩ := trod_edge q2
      rw [cells82] at q1
      exact ⟨e, rs, foreign_cells q1, q3, q4, q5⟩)
    exact ⟨_, l, rfl, ⟨some a, cap, by rw [h1], by omega, fun i p hi => ⟨a, rfl, h2 i p hi⟩⟩⟩
theorem list13 {α : Type} {l : List α} (h : l.length = 13) : ∃ a b c d e f g i j k m n o, l = [a, b, c, d, e, f, g, i, j, k, m, n, o] := by
  match l, h with
  | [a, b, c, d, e, f, g, i, j, k, m, n, o], _ => exact ⟨a, b, c, d, e, f, g, i, j, k, m, n, o, rfl⟩
theorem trod_msg {w : World} {spare : Nat → Bool} {x : DataW H' × List MemPlace} (h : DataW.trod enc Try.prog w 0 spare held fuel 28 cs = some x) :
    ∃ (x : XM) (es : Value), cs = [.int .i64 x.kind, .int .i64 x.ticket, .int .i64 x.ver, .string x.book, .string x.sheet, .int .i64 x.col, .int .i64 x.row, .int .i64 x.v.1, .int .i64 x.v.2.1, .string x.v.2.2.1, .bool x.v.2.2.2.1, .int .i64 x.v.2.2.2.2, es] ∧ FEds w es x.edges := by
  obtain ⟨hl, n, hf⟩ := trod_fields Try.underlying28 h
  rw [cells28] at hl
  obtain ⟨c0, c1, c2, c3, c4, c5, c6, c7, c8, c9, c10, c11, c12, rfl⟩ := list13 hl
  obtain ⟨_, e0⟩ := hf 0 3 0 rfl
  obtain ⟨_, e1⟩ := hf 1 2 1 rfl
  obtain ⟨_, e2⟩ := hf 2 2 2 rfl
  obtain ⟨_, e3⟩ := hf 3 23 3 rfl
  obtain ⟨_, e4⟩ := hf 4 25 7 rfl
  obtain ⟨_, e5⟩ := hf 5 26 12 rfl
  rw [cells3] at e0
  rw [cells2] at e1 e2
  rw [cells23] at e3
  rw [cells25] at e4
  rw [cells26] at e5
  obtain ⟨a0, q0⟩ := trod_int3 e0
  obtain ⟨a1, q1⟩ := trod_int2 e1
  obtain ⟨a2, q2⟩ := trod_int2 e2
  obtain ⟨p, q3⟩ := trod_place e3
  obtain ⟨v, q4⟩ := trod_val e4
  obtain ⟨es, l, q5, q6⟩ := trod_edges e5
  cases q0; cases q1; cases q2; cases q3; cases q4; cases q5
  exact ⟨⟨a0, a1, a2, p.book, p.sheet, p.col, p.row, v, l⟩, _, rfl, q6⟩
theorem open_msg {x : DataW H'} {ps : List MemPlace} {v : Value} {spare : Nat → Bool} {w : World} (h : DataW.Trod enc Try.prog w 0 spare held 28 v x ps) {base : Nat} (hv : Value.okWide Try.prog w .any base 28 v) :
    ∃ (x : XM) (es : Value), FEds w es x.edges ∧ ∀ M, Rv M (xArg x es) v := by
  obtain ⟨fuel, hf⟩ := h
  obtain ⟨x, es, q1, q2⟩ := trod_msg hf
  refine ⟨x, es, q2, fun M => ?_⟩
  obtain ⟨c, rfl, _⟩ := Go.WideShapes.okWide_struct Try.underlying28 hv
  have hc : c.toList = (Value.agg c).cells.toList := rfl
  rw [q1] at hc
  refine ⟨c, rfl, ?_⟩
  rw [hc]
  exact ⟨_, _, rfl, rfl, _, _, rfl, rfl, _, _, rfl, rfl, _, _, rfl, rfl, _, _, rfl, rfl, _, _, rfl, rfl, _, _, rfl, rfl, _, _, rfl, rfl, _, _, rfl, rfl, _, _, rfl, rfl, _, _, rfl, rfl, _, _, rfl, rfl, _, _, rfl, rfl, rfl⟩
end Go.Proofs.Ytmglahnoemgieaa.Ax
namespace Go.Proofs.Ytmglahnoemgieaa
open Go.ChangeShapes Go.WideShapes Go.ChangeAt Go.RowKit
open Go.Proofs.Ytmglahnoemgieaa.Ax
set_option linter.unusedSimpArgs false
set_option linter.unusedVariables false
theorem Try.own : ownKnob Try.prog.godebug = none := by kernel_rfl
theorem Try.laidOut : laidOutB Try.prog = true := by kernel_rfl
def M0 : Mu := ⟨0, fun _ => ⟨0, 0, 0⟩, fun _ => 0, fun _ => none, fun _ => 0, fun _ => 0⟩
theorem M0_rel (W : World) : HRel W M0 [] W :=
  ⟨rfl, Below.refl _ _, fun b k h => by simp at h, fun b b' h => by simp [M0] at h, fun c cur h => by simp [M0] at h⟩
theorem law_run {W : World} {f : FuncId} {args : List AV} {vs : List Value} (e : acallI (cfg W (some (g15 W))) f args [] = some (.ret (vB true), [], none)) (hv : Rvs M0 args vs) (hn : noBxs args = true) :
    Calls Try.prog f vs.toArray W fun e w' => e = .returned (.bool true) ∧ Below W.heap.size W w' := by
  obtain ⟨_, _, _, hc⟩ := callI_sound (cfg_ok W) f args [] _ _ _ e M0 W vs (M0_rel W) hv hn
  refine hc.mono fun e w' ⟨M', st, ho⟩ => ?_
  obtain ⟨x, rfl, hx⟩ := ho
  have : x = .bool true := hx
  subst this
  exact ⟨rfl, st.rel.below⟩
theorem Below.kept {W w' : World} (h : Below W.heap.size W w') (may : MemPlace → Prop) : W.keptBut w' may := by
  refine ⟨h.os, h.output, fun i hi => ?_⟩
  rw [h.block i hi]
  split <;> simp_all
theorem all_stay {H : Type} {enc : TypeId × Value → H} {W W' : World} (hb : Below W.heap.size W W') {sp : Nat → Bool} : ∀ (ts : List TypeId) (vs : List Value) (ds : List (DataW H)) (ps : List MemPlace), (∀ t ∈ ts, Try.prog.readableRec t = true ∧ t < Try.prog.types.size) →
    (∀ x ∈ ps, x.block < W.heap.size) → (∀ x ∈ ps, sp x.block = true) → DataW.TrodAll enc Try.prog W 0 (fun _ => true) true ts vs ds ps → DataW.TrodAll enc Try.prog W' 0 sp true ts vs ds ps
  | [], vs, ds, ps, _, _, _, h => by
    obtain ⟨rfl, rfl, rfl⟩ := trodAll_nil h
    exact rfl
  | t :: ts, _, _, _, hr, hl, hs, h => by
    obtain ⟨v, vs1, d, ds1, a, b, rfl, rfl, rfl, h1, h2⟩ := trodAll_cons h
    obtain ⟨r1, r2⟩ := hr t List.mem_cons_self
    refine ⟨a, b, ?_, all_stay hb ts _ _ _ (fun u hu => hr u (List.mem_cons_of_mem _ hu)) (fun x hx => hl x (by simp [hx])) (fun x hx => hs x (by simp [hx])) h2, rfl⟩
    exact Go.WideElems.Trod_stays Try.laidOut r1 r2 h1 (fun x hx => hb.same (hl x (by simp [hx]))) (fun x hx => hs x (by simp [hx]))
theorem law_post {H : Type} {enc : TypeId × Value → H} {W W' : World} (hb : Below W.heap.size W W') {f : Func} {s : ChangeSpec} {args : Array Value} {ds : List (DataW H)} {before : List MemPlace} (hs : s.vars = [])
    (hW : DataW.Whole enc Try.prog f.params.toList s.vars false W args.toList ds [] before) (hr : ∀ t ∈ f.params.toList, Try.prog.readableRec t = true ∧ t < Try.prog.types.size)
    (ht : f.resultTypes = #[4]) (h1 : (s.fn H (ds ++ [])).results = [.lit (.bool true)]) (h2 : (s.fn H (ds ++ [])).args = ds) (h3 : (s.fn H (ds ++ [])).vars = []) :
    s.post enc Try.prog f false true false false W args (.bool true) W' := by
  have hlt := hW.lt
  have hW0 := hW
  obtain ⟨p, q, hA, hV, rfl, hz, hn⟩ := hW
  rw [hs] at hV
  obtain ⟨_, rfl⟩ := trodVars_none hV
  have e1 : (Value.bool true).resultList f.resultTypes.size = [.bool true] := by rw [ht]; rfl
  have e2 : f.resultTypes.toList = [4] := by rw [ht]
  have hA' : ∀ sp : Nat → Bool, (∀ x ∈ p, sp x.block = true) → DataW.TrodAll enc Try.prog W' 0 sp true f.params.toList args.toList ds p := fun sp hsp => all_stay hb _ _ _ _ hr (fun x hx => hlt x (by simpa using hx)) hsp hA
  have hres : ∀ (b : Nat) (sp : Nat → Bool) (hd : Bool), DataW.TrodAll enc Try.prog W' b sp hd [4] [.bool true] [.lit (.bool true)] [] := fun b sp hd => trodAll_mk1 (shut_bool Try.underlying4 true)
  refine ⟨ds, [], p ++ [], [], p, [], hW0, ?_, ?_, ?_, Below.kept hb _, fun h => by cases h⟩
  · rw [e1, e2, h1]; exact hres _ _ _
  · rw [h2]; exact hA' _ (fun x hx => by have := hlt x (by simpa using hx); simpa using this)
  · rw [hs, h3]; exact rfl
end Go.Proofs.Ytmglahnoemgieaa
