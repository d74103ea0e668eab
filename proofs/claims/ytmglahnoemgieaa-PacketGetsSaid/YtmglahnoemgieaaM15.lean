/- What is read of the caller's rows; two rows that grow side by side. (And what follows from it, text by text.) -/
import Derived.Test.YtmglahnoemgieaaM14
namespace Go.Proofs.Ytmglahnoemgieaa.Ax
open Go Go.RowKit
set_option linter.unusedSimpArgs false
set_option linter.unusedVariables false
set_option linter.unnecessarySimpa false
set_option maxHeartbeats 8000000
set_option maxRecDepth 4000
variable {w0 : World} {t : Option Gf}
theorem now_sizeOf {P : Program} {e : TypeId} {es : Nat} (hs : sizeT P e = some es) : semNow P (sizeOf e) = some es := by
  unfold sizeT at hs
  unfold sizeOf
  simp only [Option.map_eq_some_iff] at hs
  obtain ⟨i, hi, rfl⟩ := hs
  rw [now_bind]
  have : semNow P (typeInfo e) = some i := by
    unfold typeInfo
    rw [now_bind]
    show (some P).bind _ = _
    simp only [Option.bind, hi]
    rfl
  rw [this]; rfl
theorem idx_for {P : Program} {t e : TypeId} {es : Nat} {a : Addr} {len cap : Nat} {k : IntKind} {n : Nat} (h : P.underlying t = some (.slice e)) (hs : sizeT P e = some es) (h1 : n < len) :
    idxA P t (.val (.slice (some a) len cap)) (.val (.int k n)) = some (.done (.val (.pointer (some (a.add (n * es)))))) := by
  have hz := now_sizeOf hs
  have h2 : (0 : Int) ≤ n ∧ (n : Int) < len := ⟨by omega, by omega⟩
  simp only [idxA, p2, toVal, Instr.indexAt, asIntOf, now_bind, now_und, now_pure, h, hz, Option.bind, if_pos h2, Int.toNat_natCast, norm, norm1]
/-! ### the caller's rows -/
def FPl (w0 : World) (a : Addr) (p : Pl) : Prop := foreignA w0 a 0 4 = some [vS p.book, vS p.sheet, vI p.col, vI p.row]
def FPls (w0 : World) (v : Value) (l : List Pl) : Prop := ∃ a cap, v = .slice a l.length cap ∧ l.length ≤ cap ∧ ∀ i p, l[i]? = some p → ∃ ad, a = some ad ∧ FPl w0 (ad.add (i * 4)) p
/-- an edge as the caller has it: its book, and the edge -/
structure XE where
  book : ByteArray
  sheet : ByteArray
  col : Int
  row : Int
  reads : List Pl
def FEd (w0 : World) (a : Addr) (e : XE) : Prop := ∃ rs, foreignA w0 a 0 5 = some [vS e.book, vS e.sheet, vI e.col, vI e.row, .val rs] ∧ FPls w0 rs e.reads ∧ noBx (.val rs) = true ∧ oneA (.val rs) = true
def FEds (w0 : World) (v : Value) (l : List XE) : Prop := ∃ a cap, v = .slice a l.length cap ∧ l.length ≤ cap ∧ ∀ i e, l[i]? = some e → ∃ ad, a = some ad ∧ FEd w0 (ad.add (i * 5)) e
def cutP (p : Pl) : Pl := ⟨cutN 20 p.book, cutN 20 p.sheet, p.col, p.row⟩
def cutE (e : XE) : Ed := ⟨cutN 20 e.sheet, e.col, e.row, (e.reads.take 10).map cutP⟩
/-! ### two rows of steps -/
def Sl2 (h : H) (v1 v2 : AV) (cells : List AV) (n : Nat) (hh : H) : Prop := (n = 0 ∧ cells = [] ∧ v1 = .val (.slice none 0 0) ∧ v2 = .val (.slice none 0 0) ∧ hh = h) ∨
  ∃ g1 g2, v1 = .sl h.length g1 0 n 4 ∧ v2 = .sl (h.length + 1) g2 0 n 4 ∧ hh = h ++ [⟨cells, g1⟩, ⟨cells, g2⟩]
theorem Sl2.nb {h hh : H} {v1 v2 : AV} {cells : List AV} {n : Nat} (k : Sl2 h v1 v2 cells n hh) : noBx v1 = true ∧ oneA v1 = true ∧ noBx v2 = true ∧ oneA v2 = true := by
  rcases k with ⟨_, _, rfl, rfl, _⟩ | ⟨_, _, rfl, rfl, _⟩ <;> exact ⟨rfl, rfl, rfl, rfl⟩
theorem get2a {h : H} {x y : Blk} : (h ++ [x, y])[h.length]? = some x := by simp
theorem get2b {h : H} {x y : Blk} : (h ++ [x, y])[h.length + 1]? = some y := by
  rw [List.getElem?_append_right (by omega)]; simp
theorem set2a {h : H} {x y z : Blk} : (h ++ [x, y]).set h.length z = h ++ [z, y] := by simp
theorem set2b {h : H} {x y z : Blk} : (h ++ [x, y]).set (h.length + 1) z = h ++ [x, z] := by
  rw [List.set_append_right _ _ (by omega)]; simp
theorem Sl2.slR {h hh : H} {v1 v2 : AV} {cells : List AV} {n : Nat} (k : Sl2 h v1 v2 cells n hh) : SlR hh v1 cells n 4 ∧ SlR hh v2 cells n 4 := by
  rcases k with ⟨h1, _, h3, h4, _⟩ | ⟨g1, g2, rfl, rfl, rfl⟩
  · exact ⟨.inr ⟨h1, h3⟩, .inr ⟨h1, h4⟩⟩
  · exact ⟨.inl ⟨_, g1, ⟨cells, g1⟩, rfl, get2a, rfl, rfl⟩, .inl ⟨_, g2, ⟨cells, g2⟩, rfl, get2b, rfl, rfl⟩⟩
theorem Sl2.le {h hh : H} {v1 v2 : AV} {cells : List AV} {n : Nat} (k : Sl2 h v1 v2 cells n hh) : ∃ e, hh = h ++ e := by
  rcases k with ⟨_, _, _, _, rfl⟩ | ⟨_, _, _, _, rfl⟩
  · exact ⟨[], by simp⟩
  · exact ⟨_, rfl⟩
theorem app_sl2 {call : CallF} {h hh : H} {v1 v2 : AV} {cells xs : List AV} {n : Nat} (k : Sl2 h v1 v2 cells n hh) (hc : cells.length = n * 4) (hx : xs.length = 4) (ho : xs.all oneA = true) (hn : n < 1000) :
    ∃ v1' hA lw1 v2' hB lw2, doHeap (cfg w0 t) call hh (.app 90 v1 (.lit xs 1)) = some (.val v1' hA lw1) ∧ doHeap (cfg w0 t) call hA (.app 40 v2 (.lit xs 1)) = some (.val v2' hB lw2) ∧ Sl2 h v1' v2' (cells ++ xs) (n + 1) hB ∧ lwOver lw1 h.length = true ∧ lwOver lw2 h.length = true := by
  have hs : ∀ hh, ((srcCells hh 4 (.lit xs 1)).orElse fun _ => srcForeign w0 4 (.lit xs 1)) = some (xs, 1) := by
    intro hh
    simp [srcCells, hx]
  have h1 : ¬ (1 = 0) := by decide
  rcases k with ⟨rfl, rfl, rfl, rfl, rfl⟩ | ⟨g1, g2, rfl, rfl, rfl⟩
  · refine ⟨.sl hh.length 0 0 1 4, hh ++ [⟨xs, 0⟩], none, .sl (hh.length + 1) 0 0 1 4, hh ++ [⟨xs, 0⟩, ⟨xs, 0⟩], none, ?_, ?_, .inr ⟨0, 0, by simp, by simp, by simp⟩, rfl, rfl⟩
    · simp only [doHeap, cfg_P, cfg_w0, sizeT_90, hs, ho, room_mono room90 (show 1 ≤ 1000000 by omega), h1]
      rfl
    · simp only [doHeap, cfg_P, cfg_w0, sizeT_40, hs, ho, room_mono room40 (show 1 ≤ 1000000 by omega), h1]
      simp
  · have e1 : List.take (n * 4) cells = cells := by rw [← hc, List.take_length]
    have e2 : ¬ ((n + 1) * 4 ≤ cells.length) := by omega
    have e3 : n * 4 ≤ cells.length := by omega
    refine ⟨.sl h.length (g1 + 1) 0 (n + 1) 4, h ++ [⟨cells ++ xs, g1 + 1⟩, ⟨cells, g2⟩], some h.length, .sl (h.length + 1) (g2 + 1) 0 (n + 1) 4, h ++ [⟨cells ++ xs, g1 + 1⟩, ⟨cells ++ xs, g2 + 1⟩], some (h.length + 1), ?_, ?_, .inr ⟨g1 + 1, g2 + 1, rfl, rfl, rfl⟩, by simp [lwOver], by simp [lwOver]⟩
    · simp only [doHeap, cfg_P, cfg_w0, sizeT_90, hs, ho, get2a, set2a, room_mono room90 (show n + 1 ≤ 1000000 by omega), h1, Nat.zero_add, e1, e2, e3]
      simp
    · simp only [doHeap, cfg_P, cfg_w0, sizeT_40, hs, ho, get2b, set2b, room_mono room40 (show n + 1 ≤ 1000000 by omega), h1, Nat.zero_add, e1, e2, e3]
      simp
/-! ### two rows of edges -/
def notIn (b1 b2 lo : Nat) (v : AV) : Prop := ∀ b g o n es, v = .sl b g o n es → lo ≤ b ∧ b ≠ b1 ∧ b ≠ b2
def E2I (lo : Nat) (h : H) (l : List Ed) (xs ys : AV) : Prop := (l = [] ∧ xs = .val (.slice none 0 0) ∧ ys = .val (.slice none 0 0)) ∨
  ∃ b1 g1 c1 b2 g2 c2, xs = .sl b1 g1 0 l.length 4 ∧ ys = .sl b2 g2 0 l.length 5 ∧ b1 ≠ b2 ∧ lo ≤ b1 ∧ lo ≤ b2 ∧ h[b1]? = some ⟨c1, g1⟩ ∧ h[b2]? = some ⟨c2, g2⟩ ∧ c1.length = l.length * 4 ∧ c2.length = l.length * 5 ∧
    ∀ i e, l[i]? = some e → ∃ r1 r2, (c1.drop (i * 4)).take 4 = [vS e.sheet, vI e.col, vI e.row, r1] ∧ (c2.drop (i * 5)).take 4 = [vS .empty, vS e.sheet, vI e.col, vI e.row] ∧ c2[i * 5 + 4]? = some r2 ∧
      SlR h r1 (plsC e.reads) e.reads.length 4 ∧ SlR h r2 (plsC e.reads) e.reads.length 4 ∧ notIn b1 b2 lo r1 ∧ notIn b1 b2 lo r2
theorem E2I.left {lo : Nat} {h : H} {l : List Ed} {xs ys : AV} (k : E2I lo h l xs ys) : EdsI lo h l xs := by
  rcases k with ⟨h1, h2, _⟩ | ⟨b1, g1, c1, b2, g2, c2, h1, h2, h3, h4, h5, h6, h7, h8, h9, ha⟩
  · exact .inl ⟨h1, h2⟩
  · refine .inr ⟨b1, g1, c1, h1, h4, h6, h8, fun i e hi => ?_⟩
    obtain ⟨r1, r2, q1, q2, q3, q4, q5, q6, q7⟩ := ha i e hi
    exact ⟨r1, q1, q4, fun b g o n es q => ⟨(q6 b g o n es q).1, (q6 b g o n es q).2.1⟩⟩
theorem E2I.right {lo : Nat} {h : H} {l : List Ed} {xs ys : AV} (k : E2I lo h l xs ys) : REdsI lo h l ys := by
  rcases k with ⟨h1, _, h2⟩ | ⟨b1, g1, c1, b2, g2, c2, h1, h2, h3, h4, h5, h6, h7, h8, h9, ha⟩
  · exact .inl ⟨h1, h2⟩
  · refine .inr ⟨b2, g2, c2, h2, h5, h7, h9, fun i e hi => ?_⟩
    obtain ⟨r1, r2, q1, q2, q3, q4, q5, q6, q7⟩ := ha i e hi
    exact ⟨r2, q2, q3, q5, fun b g o n es q => ⟨(q7 b g o n es q).1, (q7 b g o n es q).2.2⟩⟩
theorem notIn.ge {b1 b2 lo : Nat} {v : AV} (k : notIn b1 b2 lo v) : ∀ b g o n es, v = .sl b g o n es → lo ≤ b := fun b g o n es q => (k b g o n es q).1
theorem E2I.move {lo : Nat} {h h' : H} {l : List Ed} {xs ys : AV} (k : E2I lo h l xs ys) (hk : ∀ j, lo ≤ j → j < h.length → h'[j]? = h[j]?) : E2I lo h' l xs ys := by
  rcases k with k | ⟨b1, g1, c1, b2, g2, c2, h1, h2, h3, h4, h5, h6, h7, h8, h9, ha⟩
  · exact .inl k
  · refine .inr ⟨b1, g1, c1, b2, g2, c2, h1, h2, h3, h4, h5, (hk b1 h4 (List.getElem?_eq_some_iff.1 h6).1).trans h6, (hk b2 h5 (List.getElem?_eq_some_iff.1 h7).1).trans h7, h8, h9, fun i e hi => ?_⟩
    obtain ⟨r1, r2, q1, q2, q3, q4, q5, q6, q7⟩ := ha i e hi
    exact ⟨r1, r2, q1, q2, q3, q4.move q6.ge hk, q5.move q7.ge hk, q6, q7⟩
theorem SlR.block {h : H} {v : AV} {cells : List AV} {n es : Nat} (k : SlR h v cells n es) {b g o n' es' : Nat} (e : v = .sl b g o n' es') : b < h.length := by
  rcases k with ⟨b', g', k', q, hb, _⟩ | ⟨_, q⟩
  · rw [q] at e; cases e; exact (List.getElem?_eq_some_iff.1 hb).1
  · rw [q] at e; cases e
theorem app_e2 {call : CallF} {lo : Nat} {h : H} {l : List Ed} {xs ys : AV} (k : E2I lo h l xs ys) (e : Ed) (r1 r2 : AV) (s1 : SlR h r1 (plsC e.reads) e.reads.length 4) (s2 : SlR h r2 (plsC e.reads) e.reads.length 4)
    (n1 : ∀ b g o n es, r1 = .sl b g o n es → lo ≤ b ∧ (∀ b' g' o' n' es', xs = .sl b' g' o' n' es' → b ≠ b') ∧ (∀ b' g' o' n' es', ys = .sl b' g' o' n' es' → b ≠ b'))
    (n2 : ∀ b g o n es, r2 = .sl b g o n es → lo ≤ b ∧ (∀ b' g' o' n' es', xs = .sl b' g' o' n' es' → b ≠ b') ∧ (∀ b' g' o' n' es', ys = .sl b' g' o' n' es' → b ≠ b')) (hlo : lo ≤ h.length) (hn : l.length < 1000) :
    ∃ xs' hA lw1 ys' hB lw2, doHeap (cfg w0 t) call h (.app 85 xs (.lit [vS e.sheet, vI e.col, vI e.row, r1] 1)) = some (.val xs' hA lw1) ∧ doHeap (cfg w0 t) call hA (.app 88 ys (.lit [vS .empty, vS e.sheet, vI e.col, vI e.row, r2] 1)) = some (.val ys' hB lw2) ∧
      E2I lo hB (l ++ [e]) xs' ys' ∧ lwOver lw1 lo = true ∧ lwOver lw2 lo = true ∧ h.length ≤ hB.length ∧ noBx xs' = true ∧ oneA xs' = true ∧ noBx ys' = true ∧ oneA ys' = true := by
  have o1 : [vS e.sheet, vI e.col, vI e.row, r1].all oneA = true := by rcases s1 with ⟨_, _, _, rfl, _⟩ | ⟨_, rfl⟩ <;> rfl
  have o2 : [vS .empty, vS e.sheet, vI e.col, vI e.row, r2].all oneA = true := by rcases s2 with ⟨_, _, _, rfl, _⟩ | ⟨_, rfl⟩ <;> rfl
  have hs1 : ∀ hh, ((srcCells hh 4 (.lit [vS e.sheet, vI e.col, vI e.row, r1] 1)).orElse fun _ => srcForeign w0 4 (.lit [vS e.sheet, vI e.col, vI e.row, r1] 1)) = some ([vS e.sheet, vI e.col, vI e.row, r1], 1) := by
    intro hh; simp [srcCells]
  have hs2 : ∀ hh, ((srcCells hh 5 (.lit [vS .empty, vS e.sheet, vI e.col, vI e.row, r2] 1)).orElse fun _ => srcForeign w0 5 (.lit [vS .empty, vS e.sheet, vI e.col, vI e.row, r2] 1)) = some ([vS .empty, vS e.sheet, vI e.col, vI e.row, r2], 1) := by
    intro hh; simp [srcCells]
  have h1 : ¬ (1 = 0) := by decide
  rcases k with ⟨rfl, rfl, rfl⟩ | ⟨b1, g1, c1, b2, g2, c2, rfl, rfl, h3, h4, h5, h6, h7, h8, h9, ha⟩
  · refine ⟨.sl h.length 0 0 1 4, h ++ [⟨[vS e.sheet, vI e.col, vI e.row, r1], 0⟩], none, .sl (h.length + 1) 0 0 1 5, h ++ [⟨[vS e.sheet, vI e.col, vI e.row, r1], 0⟩, ⟨[vS .empty, vS e.sheet, vI e.col, vI e.row, r2], 0⟩], none, ?_, ?_,
      .inr ⟨h.length, 0, _, h.length + 1, 0, _, rfl, rfl, by omega, hlo, by omega, get2a, get2b, rfl, rfl, ?_⟩, rfl, rfl, by simp, rfl, rfl, rfl, rfl⟩
    · simp only [doHeap, cfg_P, cfg_w0, sizeT_85, hs1, o1, room_mono room85 (show 1 ≤ 1000000 by omega), h1]
      rfl
    · simp only [doHeap, cfg_P, cfg_w0, sizeT_88, hs2, o2, room_mono room88 (show 1 ≤ 1000000 by omega), h1]
      simp
    · intro i e' hi
      cases i with
      | zero =>
        simp at hi
        subst hi
        refine ⟨r1, r2, by simp, by simp, by simp, s1.move (lo := 0) (fun _ _ _ _ _ _ => Nat.zero_le _) (fun j _ hj => List.getElem?_append_left hj), s2.move (lo := 0) (fun _ _ _ _ _ _ => Nat.zero_le _) (fun j _ hj => List.getElem?_append_left hj), ?_, ?_⟩
        · intro b g o n es q
          have := s1.block q
          exact ⟨(n1 b g o n es q).1, by omega, by omega⟩
        · intro b g o n es q
          have := s2.block q
          exact ⟨(n2 b g o n es q).1, by omega, by omega⟩
      | succ i => simp at hi
  · have hb1 := (List.getElem?_eq_some_iff.1 h6).1
    have hb2 := (List.getElem?_eq_some_iff.1 h7).1
    have e1 : List.take (l.length * 4) c1 = c1 := by rw [← h8, List.take_length]
    have e2 : ¬ ((l.length + 1) * 4 ≤ c1.length) := by omega
    have e3 : l.length * 4 ≤ c1.length := by omega
    have f1 : List.take (l.length * 5) c2 = c2 := by rw [← h9, List.take_length]
    have f2 : ¬ ((l.length + 1) * 5 ≤ c2.length) := by omega
    have f3 : l.length * 5 ≤ c2.length := by omega
    generalize hXA : (⟨c1 ++ [vS e.sheet, vI e.col, vI e.row, r1], g1 + 1⟩ : Blk) = XA
    generalize hXB : (⟨c2 ++ [vS .empty, vS e.sheet, vI e.col, vI e.row, r2], g2 + 1⟩ : Blk) = XB
    have h7' : (h.set b1 XA)[b2]? = some ⟨c2, g2⟩ := by rw [List.getElem?_set_ne h3]; exact h7
    have hkeep : ∀ j, j ≠ b1 → j ≠ b2 → ((h.set b1 XA).set b2 XB)[j]? = h[j]? := by
      intro j q1 q2
      rw [List.getElem?_set_ne (by omega), List.getElem?_set_ne (by omega)]
    have hmv : ∀ {r : AV} {cells : List AV} {n : Nat}, SlR h r cells n 4 → notIn b1 b2 lo r → SlR ((h.set b1 XA).set b2 XB) r cells n 4 := by
      intro r cells n hr hnr
      rcases hr with ⟨b', g', k', rfl, q1, q2, q3⟩ | ⟨q1, q2⟩
      · exact .inl ⟨b', g', k', rfl, (hkeep b' (hnr _ _ _ _ _ rfl).2.1 (hnr _ _ _ _ _ rfl).2.2).trans q1, q2, q3⟩
      · exact .inr ⟨q1, q2⟩
    have nn1 : notIn b1 b2 lo r1 := fun b g o n es q => ⟨(n1 b g o n es q).1, (n1 b g o n es q).2.1 _ _ _ _ _ rfl, (n1 b g o n es q).2.2 _ _ _ _ _ rfl⟩
    have nn2 : notIn b1 b2 lo r2 := fun b g o n es q => ⟨(n2 b g o n es q).1, (n2 b g o n es q).2.1 _ _ _ _ _ rfl, (n2 b g o n es q).2.2 _ _ _ _ _ rfl⟩
    refine ⟨.sl b1 (g1 + 1) 0 (l.length + 1) 4, h.set b1 XA, some b1, .sl b2 (g2 + 1) 0 (l.length + 1) 5, (h.set b1 XA).set b2 XB, some b2, ?_, ?_,
      .inr ⟨b1, g1 + 1, c1 ++ [vS e.sheet, vI e.col, vI e.row, r1], b2, g2 + 1, c2 ++ [vS .empty, vS e.sheet, vI e.col, vI e.row, r2], by simp, by simp, h3, h4, h5, ?_, ?_, by simp [h8]; omega, by simp [h9]; omega, ?_⟩, by simp [lwOver]; omega, by simp [lwOver]; omega, by simp, rfl, rfl, rfl, rfl⟩
    · subst hXA
      simp only [doHeap, cfg_P, cfg_w0, sizeT_85, hs1, o1, h6, room_mono room85 (show l.length + 1 ≤ 1000000 by omega), h1, Nat.zero_add, e1, e2, e3]
      simp
    · subst hXB
      simp only [doHeap, cfg_P, cfg_w0, sizeT_88, hs2, o2, h7', room_mono room88 (show l.length + 1 ≤ 1000000 by omega), h1, Nat.zero_add, f1, f2, f3]
      simp
    · rw [List.getElem?_set_ne (by omega), List.getElem?_set_self (by omega), hXA]
    · rw [List.getElem?_set_self (by rw [List.length_set]; omega), hXB]
    · intro i e' hi
      by_cases hl : i < l.length
      · rw [List.getElem?_append_left hl] at hi
        obtain ⟨q1', q2', q1, q2, q3, q4, q5, q6, q7⟩ := ha i e' hi
        exact ⟨q1', q2', by rw [cells_at h8 hl]; exact q1, by rw [cells_at5 h9 hl]; exact q2, by rw [List.getElem?_append_left (by omega)]; exact q3, hmv q4 q6, hmv q5 q7, q6, q7⟩
      · have hil : i = l.length := by
          have := (List.getElem?_eq_some_iff.1 hi).1
          simp at this
          omega
        subst hil
        simp at hi
        subst hi
        refine ⟨r1, r2, ?_, ?_, ?_, hmv s1 nn1, hmv s2 nn2, nn1, nn2⟩
        · rw [← h8, List.drop_left]; rfl
        · rw [← h9, List.drop_left]; rfl
        · rw [List.getElem?_append_right (by omega), h9, Nat.add_sub_cancel_left]; rfl
end Go.Proofs.Ytmglahnoemgieaa.Ax
namespace Go.Proofs.Ytmglahnoemgieaa.Ax
open Go Go.RowKit
set_option linter.unusedSimpArgs false
set_option linter.unusedVariables false
set_option linter.unnecessarySimpa false
set_option maxHeartbeats 8000000
set_option maxRecDepth 4000
variable {w0 : World} {t : Option Gf}
def R7i (H0 : H) (lo : Nat) (acc : List Pl) (gf gg : Nat) (d0 d1 d2 f0 f1 f2 f3 : AV) (loc0 : Loc) (F : Nat → AV) (l : List Pl) (R : Option (Ex × S)) : Prop :=
  ∃ F' loc' v1 v2 hh lw, R = some (.exit 2, ⟨fl 149 F', loc', hh, lw⟩) ∧ Sl2 H0 v1 v2 (plsC (acc ++ l)) (acc ++ l).length hh ∧ locGet loc' 10 = some (gf, .cells [d0, d1, d2, v1]) ∧ locGet loc' 11 = some (gg, .cells [f0, f1, f2, f3, v2]) ∧ lwOver lw lo = true ∧
    F' 2 = F 2 ∧ F' 3 = F 3 ∧ F' 6 = F 6 ∧ F' 7 = F 7 ∧ F' 10 = F 10 ∧ F' 11 = F 11 ∧ F' 66 = F 66 ∧ F' 67 = F 67 ∧ F' 68 = F 68 ∧ locGet loc' 2 = locGet loc0 2 ∧ locGet loc' 3 = locGet loc0 3 ∧ locGet loc' 6 = locGet loc0 6 ∧ locGet loc' 7 = locGet loc0 7
theorem R7i.step {H0 : H} {lo : Nat} {acc : List Pl} {p : Pl} {gf gg : Nat} {d0 d1 d2 f0 f1 f2 f3 : AV} {loc0 loc : Loc} {F0 F : Nat → AV} {l : List Pl} {R : Option (Ex × S)} (k : R7i H0 lo (acc ++ [p]) gf gg d0 d1 d2 f0 f1 f2 f3 loc F l R)
    (k2 : F 2 = F0 2) (k3 : F 3 = F0 3) (k6 : F 6 = F0 6) (k7 : F 7 = F0 7) (k10 : F 10 = F0 10) (k11 : F 11 = F0 11) (k66 : F 66 = F0 66) (k67 : F 67 = F0 67) (k68 : F 68 = F0 68) (l2 : locGet loc 2 = locGet loc0 2) (l3 : locGet loc 3 = locGet loc0 3) (l6 : locGet loc 6 = locGet loc0 6) (l7 : locGet loc 7 = locGet loc0 7) :
    R7i H0 lo acc gf gg d0 d1 d2 f0 f1 f2 f3 loc0 F0 (p :: l) R := by
  obtain ⟨F', loc', v1, v2, hh, lw, q1, q2, q3, q4, q5, p2, p3, p6, p7, p10, p11, p66, p67, p68, m2, m3, m6, m7⟩ := k
  rw [List.append_assoc, List.singleton_append] at q2
  exact ⟨F', loc', v1, v2, hh, lw, q1, q2, q3, q4, q5, p2.trans k2, p3.trans k3, p6.trans k6, p7.trans k7, p10.trans k10, p11.trans k11, p66.trans k66, p67.trans k67, p68.trans k68, m2.trans l2, m3.trans l3, m6.trans l6, m7.trans l7⟩
theorem L7z (H0 : H) (lo : Nat) (gf gg : Nat) (d0 d1 d2 f0 f1 f2 f3 : AV) (acc : List Pl) (v1 v2 : AV) (hh : H) (F : Nat → AV) (loc : Loc) (lw : Option Nat) (m : Nat) (hlw : lwOver lw lo = true) (hS : Sl2 H0 v1 v2 (plsC acc) acc.length hh) (l10 : locGet loc 10 = some (gf, .cells [d0, d1, d2, v1])) (l11 : locGet loc 11 = some (gg, .cells [f0, f1, f2, f3, v2]))
    (h105 : F 105 = vI m) (h106 : F 106 = vI m) : R7i H0 lo acc gf gg d0 d1 d2 f0 f1 f2 f3 loc F [] (acodeI (cfg w0 t) 7 (.loop (lp Try.f7 1)) ⟨fl 149 F, loc, hh, lw⟩) := by
  dsimp only [lp, loopsOf, Try.f7, Option.getD, List.append_eq, List.nil_append, List.cons_append, List.getElem?_cons_zero, List.getElem?_cons_succ]
  have e : ¬ ((m : Int) < m) := by omega
  rw [X_loop]
  unfold R7i
  rw [List.append_nil]
  simp only [reduceIte, reduceCtorEq, Nat.reduceAdd, Nat.reduceMul, Nat.reduceSub, Nat.reduceEqDiff, Nat.reduceLT, Nat.reduceLeDiff, Nat.reduceBEq, Int.reduceLT, Int.reduceLE, Int.reduceEq,
    Int.reduceNe, Int.reduceAdd, Int.reduceSub, Int.reduceMul, Int.reduceToNat, push_cast, pairsOk, locGet_set, p2_int, intBin, h105, h106, e]
  exact ⟨_, _, v1, v2, hh, _, rfl, hS, l10, l11, hlw, by simp only [reduceIte, reduceCtorEq, Nat.reduceAdd, Nat.reduceMul, Nat.reduceSub, Nat.reduceEqDiff, Nat.reduceLT, Nat.reduceLeDiff, Nat.reduceBEq, Int.reduceLT, Int.reduceLE, Int.reduceEq,
    Int.reduceNe, Int.reduceAdd, Int.reduceSub, Int.reduceMul, Int.reduceToNat, push_cast, pairsOk, locGet_set], by simp only [reduceIte, reduceCtorEq, Nat.reduceAdd, Nat.reduceMul, Nat.reduceSub, Nat.reduceEqDiff, Nat.reduceLT, Nat.reduceLeDiff, Nat.reduceBEq, Int.reduceLT, Int.reduceLE, Int.reduceEq,
    Int.reduceNe, Int.reduceAdd, Int.reduceSub, Int.reduceMul, Int.reduceToNat, push_cast, pairsOk, locGet_set], by simp only [reduceIte, reduceCtorEq, Nat.reduceAdd, Nat.reduceMul, Nat.reduceSub, Nat.reduceEqDiff, Nat.reduceLT, Nat.reduceLeDiff, Nat.reduceBEq, Int.reduceLT, Int.reduceLE, Int.reduceEq,
    Int.reduceNe, Int.reduceAdd, Int.reduceSub, Int.reduceMul, Int.reduceToNat, push_cast, pairsOk, locGet_set], by simp only [reduceIte, reduceCtorEq, Nat.reduceAdd, Nat.reduceMul, Nat.reduceSub, Nat.reduceEqDiff, Nat.reduceLT, Nat.reduceLeDiff, Nat.reduceBEq, Int.reduceLT, Int.reduceLE, Int.reduceEq,
    Int.reduceNe, Int.reduceAdd, Int.reduceSub, Int.reduceMul, Int.reduceToNat, push_cast, pairsOk, locGet_set], by simp only [reduceIte, reduceCtorEq, Nat.reduceAdd, Nat.reduceMul, Nat.reduceSub, Nat.reduceEqDiff, Nat.reduceLT, Nat.reduceLeDiff, Nat.reduceBEq, Int.reduceLT, Int.reduceLE, Int.reduceEq,
    Int.reduceNe, Int.reduceAdd, Int.reduceSub, Int.reduceMul, Int.reduceToNat, push_cast, pairsOk, locGet_set], by simp only [reduceIte, reduceCtorEq, Nat.reduceAdd, Nat.reduceMul, Nat.reduceSub, Nat.reduceEqDiff, Nat.reduceLT, Nat.reduceLeDiff, Nat.reduceBEq, Int.reduceLT, Int.reduceLE, Int.reduceEq,
    Int.reduceNe, Int.reduceAdd, Int.reduceSub, Int.reduceMul, Int.reduceToNat, push_cast, pairsOk, locGet_set], by simp only [reduceIte, reduceCtorEq, Nat.reduceAdd, Nat.reduceMul, Nat.reduceSub, Nat.reduceEqDiff, Nat.reduceLT, Nat.reduceLeDiff, Nat.reduceBEq, Int.reduceLT, Int.reduceLE, Int.reduceEq,
    Int.reduceNe, Int.reduceAdd, Int.reduceSub, Int.reduceMul, Int.reduceToNat, push_cast, pairsOk, locGet_set], by simp only [reduceIte, reduceCtorEq, Nat.reduceAdd, Nat.reduceMul, Nat.reduceSub, Nat.reduceEqDiff, Nat.reduceLT, Nat.reduceLeDiff, Nat.reduceBEq, Int.reduceLT, Int.reduceLE, Int.reduceEq,
    Int.reduceNe, Int.reduceAdd, Int.reduceSub, Int.reduceMul, Int.reduceToNat, push_cast, pairsOk, locGet_set], by simp only [reduceIte, reduceCtorEq, Nat.reduceAdd, Nat.reduceMul, Nat.reduceSub, Nat.reduceEqDiff, Nat.reduceLT, Nat.reduceLeDiff, Nat.reduceBEq, Int.reduceLT, Int.reduceLE, Int.reduceEq,
    Int.reduceNe, Int.reduceAdd, Int.reduceSub, Int.reduceMul, Int.reduceToNat, push_cast, pairsOk, locGet_set], rfl, rfl, rfl, rfl⟩
theorem L7i (H0 : H) (lo : Nat) (hlo : lo ≤ H0.length) (ad : Addr) (cap : Nat) (l : List Pl) (hf : ∀ i p, l[i]? = some p → FPl w0 (ad.add (i * 4)) p) (hl10 : l.length ≤ 10) (gf gg : Nat) (d0 d1 d2 f0 f1 f2 f3 : AV) : ∀ (m j : Nat) (acc : List Pl) (v1 v2 : AV) (hh : H) (F : Nat → AV) (loc : Loc) (lw : Option Nat), j + m = l.length → acc.length = j → lwOver lw lo = true →
    Sl2 H0 v1 v2 (plsC acc) acc.length hh → locGet loc 10 = some (gf, .cells [d0, d1, d2, v1]) → locGet loc 11 = some (gg, .cells [f0, f1, f2, f3, v2]) → F 10 = .bx 10 gf 0 → F 11 = .bx 11 gg 0 → F 104 = .val (.slice (some ad) l.length cap) → F 105 = vI l.length → F 106 = vI j →
    R7i H0 lo acc gf gg d0 d1 d2 f0 f1 f2 f3 loc F ((l.drop j).map cutP) (acodeI (cfg w0 t) 7 (.loop (lp Try.f7 1)) ⟨fl 149 F, loc, hh, lw⟩) := by
  intro m
  induction m with
  | zero =>
    intro j acc v1 v2 hh F loc lw hj hacc hlw hS l10 l11 h10 h11 h104 h105 h106
    rw [List.drop_eq_nil_of_le (by omega), List.map_nil]
    exact L7z H0 lo gf gg d0 d1 d2 f0 f1 f2 f3 acc v1 v2 hh F loc lw l.length hlw hS l10 l11 h105 (by rw [h106, show j = l.length from by omega])
  | succ m ih =>
    intro j acc v1 v2 hh F loc lw hj hacc hlw hS l10 l11 h10 h11 h104 h105 h106
    have e : (j : Int) < l.length := by omega
    have hlt : j < l.length := by omega
    have hp : l[j]? = some l[j] := List.getElem?_eq_getElem hlt
    have hdr := List.drop_eq_getElem_cons hlt
    have hfp := hf j _ hp
    have hix := idx_for (k := .i64) (cap := cap) (a := ad) (P := Try.prog) (t := 80) (es := 4) (n := j) Try.underlying80 sizeT_23 hlt
    have hw : IntKind.i64.wrap ((j : Int) + 1) = ((j + 1 : Nat) : Int) := by rw [wrap_i64] <;> omega
    generalize l[j] = p at hfp hdr
    unfold FPl at hfp
    have e21 := f21 (w0 := w0) (t := t) p.book p.sheet p.col p.row hh
    have hnb := hS.nb
    obtain ⟨v1', hA, lw1, v2', hB, lw2, r1, r2, r3, r4, r5⟩ := app_sl2 (w0 := w0) (t := t) (call := acallI (cfg w0 t)) hS (plsC_length acc) (xs := [vS (cutN 20 p.book), vS (cutN 20 p.sheet), vI p.col, vI p.row]) rfl rfl (by omega)
    have hpls : plsC acc ++ [vS (cutN 20 p.book), vS (cutN 20 p.sheet), vI p.col, vI p.row] = plsC (acc ++ [cutP p]) := by simp [plsC, plC, cutP]
    rw [hpls, show acc.length + 1 = (acc ++ [cutP p]).length from by simp] at r3
    have hnb3 := r3.nb
    have hov : ∀ {x : Option Nat}, lwOver x H0.length = true → lwOver x lo = true := by
      intro x hx
      cases x with
      | none => rfl
      | some x => simp [lwOver] at hx ⊢; omega
    have ih := ih (j + 1) (acc ++ [cutP p]) v1' v2' hB
    rw [hdr, List.map_cons]
    dsimp only [lp, loopsOf, Try.f7, Option.getD, List.append_eq, List.nil_append, List.cons_append, List.getElem?_cons_zero, List.getElem?_cons_succ] at ih ⊢
    rw [X_loop]
    simp only [reduceIte, reduceCtorEq, Nat.reduceAdd, Nat.reduceMul, Nat.reduceSub, Nat.reduceEqDiff, Nat.reduceLT, Nat.reduceLeDiff, Nat.reduceBEq, Int.reduceLT, Int.reduceLE, Int.reduceEq,
    Int.reduceNe, Int.reduceAdd, Int.reduceSub, Int.reduceMul, Int.reduceToNat, push_cast, pairsOk, locGet_set, p2_int, intBin, load_val, zerosA, List.range, List.range.loop, Nat.zero_mod, getT, h10, h11, h104, h105, h106, l10, l11, e, hix, hfp, e21, hnb.1, hnb.2.1, hnb.2.2.1, hnb.2.2.2, r1, r2, hnb3.1, hnb3.2.1, hnb3.2.2.1, hnb3.2.2.2, c_one hnb3.2.1, c_one hnb3.2.2.2, hw]
    refine R7i.step (ih _ _ _ (by omega) (by simp [hacc]) ?_ r3 ?_ ?_ ?_ ?_ ?_ ?_ ?_) ?_ ?_ ?_ ?_ ?_ ?_ ?_ ?_ ?_ ?_ ?_ ?_ ?_ <;> simp only [reduceIte, reduceCtorEq, Nat.reduceAdd, Nat.reduceMul, Nat.reduceSub, Nat.reduceEqDiff, Nat.reduceLT, Nat.reduceLeDiff, Nat.reduceBEq, Int.reduceLT, Int.reduceLE, Int.reduceEq,
    Int.reduceNe, Int.reduceAdd, Int.reduceSub, Int.reduceMul, Int.reduceToNat, push_cast, pairsOk, locGet_set, h10, h11, h104, h105, l10, l11, hlw, hov r4, hov r5, hnb3.1, hnb3.2.1, hnb3.2.2.1, hnb3.2.2.2]
end Go.Proofs.Ytmglahnoemgieaa.Ax
namespace Go.Proofs.Ytmglahnoemgieaa.Ax
open Go Go.RowKit
set_option linter.unusedSimpArgs false
set_option linter.unusedVariables false
set_option linter.unnecessarySimpa false
set_option maxHeartbeats 8000000
set_option maxRecDepth 4000
variable {w0 : World} {t : Option Gf}
theorem add0 {a : Option Addr} {n es : Nat} : (if n = 0 then a else a.map (·.add (0 * es))) = a := by
  split
  · rfl
  · cases a with
    | none => rfl
    | some a => simp [Addr.add]
theorem cut_rows {P : Program} {ty e es : Nat} {a : Option Addr} {len cap : Nat} (h : P.underlying ty = some (.slice e)) (hs : sizeT P e = some es) (hc : len ≤ cap) :
    p2 P (.val (.slice a len cap)) (.val (.int .i64 ((min len 10 : Nat) : Int))) (fun x y => Instr.sliceAt ty x none (some y) none) = some (.done (.val (.slice a (min len 10) cap))) := by
  rw [sl_slice_h h hs (by omega) (by omega), add0]
  simp
theorem min10 (n : Nat) : (if (10 : Int) < (n : Int) then (10 : Int) else (n : Int)) = ((min n 10 : Nat) : Int) := by
  split <;> omega
theorem take_len {α : Type} (l : List α) : (l.take 10).length = min l.length 10 := by rw [List.length_take]; omega
theorem L7r (H0 : H) (lo : Nat) (hlo : lo ≤ H0.length) (a : Option Addr) (cap : Nat) (reads : List Pl) (hf : ∀ i p, reads[i]? = some p → ∃ ad, a = some ad ∧ FPl w0 (ad.add (i * 4)) p) (gf gg : Nat) (d0 d1 d2 f0 f1 f2 f3 : AV) (F : Nat → AV) (loc : Loc) (lw : Option Nat) (hlw : lwOver lw lo = true)
    (l10 : locGet loc 10 = some (gf, .cells [d0, d1, d2, .val (.slice none 0 0)])) (l11 : locGet loc 11 = some (gg, .cells [f0, f1, f2, f3, .val (.slice none 0 0)])) (h10 : F 10 = .bx 10 gf 0) (h11 : F 11 = .bx 11 gg 0) (h104 : F 104 = .val (.slice a (min reads.length 10) cap)) (h105 : F 105 = vI (min reads.length 10 : Nat)) (h106 : F 106 = vI 0) :
    R7i H0 lo [] gf gg d0 d1 d2 f0 f1 f2 f3 loc F ((reads.take 10).map cutP) (acodeI (cfg w0 t) 7 (.loop (lp Try.f7 1)) ⟨fl 149 F, loc, H0, lw⟩) := by
  cases hr : reads with
  | nil =>
    subst hr
    exact L7z H0 lo gf gg d0 d1 d2 f0 f1 f2 f3 [] _ _ H0 F loc lw 0 hlw (.inl ⟨rfl, rfl, rfl, rfl, rfl⟩) l10 l11 h105 h106
  | cons p r =>
    obtain ⟨ad, ha, _⟩ := hf 0 p (by rw [hr]; rfl)
    subst ha
    rw [← hr]
    have hl := take_len reads
    refine L7i H0 lo hlo ad cap (reads.take 10) ?_ (by omega) gf gg d0 d1 d2 f0 f1 f2 f3 (reads.take 10).length 0 [] _ _ H0 F loc lw (by omega) rfl hlw (.inl ⟨rfl, rfl, rfl, rfl, rfl⟩) l10 l11 h10 h11 (by rw [hl]; exact h104) (by rw [hl]; exact h105) h106
    intro i q hq
    have hi := (List.getElem?_eq_some_iff.1 hq).1
    rw [List.getElem?_take_of_lt (by omega)] at hq
    obtain ⟨ad', h1, h2⟩ := hf i q hq
    cases h1
    exact h2
def R7o (lo : Nat) (acc : List Ed) (cs ds : AV → List AV) (loc0 : Loc) (F : Nat → AV) (l : List Ed) (R : Option (Ex × S)) : Prop :=
  ∃ F' loc' xs ys hh lw, R = some (.exit 0, ⟨fl 149 F', loc', hh, lw⟩) ∧ E2I lo hh (acc ++ l) xs ys ∧ locGet loc' 6 = some (1, .cells (cs xs)) ∧ locGet loc' 7 = some (1, .cells (ds ys)) ∧ lwOver lw lo = true ∧ lo ≤ hh.length ∧
    F' 2 = F 2 ∧ F' 3 = F 3 ∧ F' 6 = F 6 ∧ F' 7 = F 7 ∧ locGet loc' 2 = locGet loc0 2 ∧ locGet loc' 3 = locGet loc0 3
theorem R7o.step {lo : Nat} {acc : List Ed} {p : Ed} {cs ds : AV → List AV} {loc0 loc : Loc} {F0 F : Nat → AV} {l : List Ed} {R : Option (Ex × S)} (k : R7o lo (acc ++ [p]) cs ds loc F l R) (k2 : F 2 = F0 2) (k3 : F 3 = F0 3) (k6 : F 6 = F0 6) (k7 : F 7 = F0 7) (l2 : locGet loc 2 = locGet loc0 2) (l3 : locGet loc 3 = locGet loc0 3) : R7o lo acc cs ds loc0 F0 (p :: l) R := by
  obtain ⟨F', loc', xs, ys, hh, lw, q1, q2, q3, q4, q5, q6, p2, p3, p6, p7, m2, m3⟩ := k
  rw [List.append_assoc, List.singleton_append] at q2
  exact ⟨F', loc', xs, ys, hh, lw, q1, q2, q3, q4, q5, q6, p2.trans k2, p3.trans k3, p6.trans k6, p7.trans k7, m2.trans l2, m3.trans l3⟩
theorem L7oz (lo : Nat) (acc : List Ed) (cs ds : AV → List AV) (xs ys : AV) (hh : H) (hlo : lo ≤ hh.length) (hI : E2I lo hh acc xs ys) (F : Nat → AV) (loc : Loc) (lw : Option Nat) (m : Nat) (hlw : lwOver lw lo = true) (l6 : locGet loc 6 = some (1, .cells (cs xs))) (l7 : locGet loc 7 = some (1, .cells (ds ys))) (h67 : F 67 = vI m) (h68 : F 68 = vI m) :
    R7o lo acc cs ds loc F [] (acodeI (cfg w0 t) 7 (.loop (lp Try.f7 0)) ⟨fl 149 F, loc, hh, lw⟩) := by
  dsimp only [lp, loopsOf, Try.f7, Option.getD, List.append_eq, List.nil_append, List.cons_append, List.getElem?_cons_zero, List.getElem?_cons_succ]
  have e : ¬ ((m : Int) < m) := by omega
  rw [X_loop]
  unfold R7o
  rw [List.append_nil]
  simp only [reduceIte, reduceCtorEq, Nat.reduceAdd, Nat.reduceMul, Nat.reduceSub, Nat.reduceEqDiff, Nat.reduceLT, Nat.reduceLeDiff, Nat.reduceBEq, Int.reduceLT, Int.reduceLE, Int.reduceEq,
    Int.reduceNe, Int.reduceAdd, Int.reduceSub, Int.reduceMul, Int.reduceToNat, push_cast, pairsOk, locGet_set, p2_int, intBin, h67, h68, e]
  exact ⟨_, _, xs, ys, hh, _, rfl, hI, l6, l7, hlw, hlo, by simp only [reduceIte, reduceCtorEq, Nat.reduceAdd, Nat.reduceMul, Nat.reduceSub, Nat.reduceEqDiff, Nat.reduceLT, Nat.reduceLeDiff, Nat.reduceBEq, Int.reduceLT, Int.reduceLE, Int.reduceEq,
    Int.reduceNe, Int.reduceAdd, Int.reduceSub, Int.reduceMul, Int.reduceToNat, push_cast, pairsOk, locGet_set], by simp only [reduceIte, reduceCtorEq, Nat.reduceAdd, Nat.reduceMul, Nat.reduceSub, Nat.reduceEqDiff, Nat.reduceLT, Nat.reduceLeDiff, Nat.reduceBEq, Int.reduceLT, Int.reduceLE, Int.reduceEq,
    Int.reduceNe, Int.reduceAdd, Int.reduceSub, Int.reduceMul, Int.reduceToNat, push_cast, pairsOk, locGet_set], by simp only [reduceIte, reduceCtorEq, Nat.reduceAdd, Nat.reduceMul, Nat.reduceSub, Nat.reduceEqDiff, Nat.reduceLT, Nat.reduceLeDiff, Nat.reduceBEq, Int.reduceLT, Int.reduceLE, Int.reduceEq,
    Int.reduceNe, Int.reduceAdd, Int.reduceSub, Int.reduceMul, Int.reduceToNat, push_cast, pairsOk, locGet_set], by simp only [reduceIte, reduceCtorEq, Nat.reduceAdd, Nat.reduceMul, Nat.reduceSub, Nat.reduceEqDiff, Nat.reduceLT, Nat.reduceLeDiff, Nat.reduceBEq, Int.reduceLT, Int.reduceLE, Int.reduceEq,
    Int.reduceNe, Int.reduceAdd, Int.reduceSub, Int.reduceMul, Int.reduceToNat, push_cast, pairsOk, locGet_set], rfl, rfl⟩
theorem L7o (lo : Nat) (ad : Addr) (cap : Nat) (l : List XE) (hf : ∀ i e, l[i]? = some e → FEd w0 (ad.add (i * 5)) e) (hl10 : l.length ≤ 10) (c0 c1 c2 c3 c4 c5 c6 c7 c8 c9 c10 d0 d1 d2 d3 d4 d5 d6 d7 d8 d9 d10 d11 : AV) : ∀ (m i : Nat) (acc : List Ed) (xs ys : AV) (hh : H) (F : Nat → AV) (loc : Loc) (lw : Option Nat), i + m = l.length → acc.length = i → lwOver lw lo = true → lo ≤ hh.length →
    E2I lo hh acc xs ys → locGet loc 6 = some (1, .cells [c0, c1, c2, c3, c4, c5, c6, c7, c8, c9, c10, xs]) → locGet loc 7 = some (1, .cells [d0, d1, d2, d3, d4, d5, d6, d7, d8, d9, d10, d11, ys]) → F 6 = .bx 6 1 0 → F 7 = .bx 7 1 0 → F 66 = .val (.slice (some ad) l.length cap) → F 67 = vI l.length → F 68 = vI i →
    R7o lo acc (fun xs => [c0, c1, c2, c3, c4, c5, c6, c7, c8, c9, c10, xs]) (fun ys => [d0, d1, d2, d3, d4, d5, d6, d7, d8, d9, d10, d11, ys]) loc F ((l.drop i).map cutE) (acodeI (cfg w0 t) 7 (.loop (lp Try.f7 0)) ⟨fl 149 F, loc, hh, lw⟩) := by
  intro m
  induction m with
  | zero =>
    intro i acc xs ys hh F loc lw hi hacc hlw hlo hI l6 l7 h6 h7 h66 h67 h68
    rw [List.drop_eq_nil_of_le (by omega), List.map_nil]
    exact L7oz lo acc _ _ xs ys hh hlo hI F loc lw l.length hlw l6 l7 h67 (by rw [h68, show i = l.length from by omega])
  | succ m ih =>
    intro i acc xs ys hh F loc lw hi hacc hlw hlo hI l6 l7 h6 h7 h66 h67 h68
    have e : (i : Int) < l.length := by omega
    have hlt : i < l.length := by omega
    have hp : l[i]? = some l[i] := List.getElem?_eq_getElem hlt
    have hdr := List.drop_eq_getElem_cons hlt
    have hfe := hf i _ hp
    have hix := idx_for (k := .i64) (cap := cap) (a := ad) (P := Try.prog) (t := 26) (es := 5) (n := i) Try.underlying26 sizeT_82 hlt
    have hw : IntKind.i64.wrap ((i : Int) + 1) = ((i + 1 : Nat) : Int) := by rw [wrap_i64] <;> omega
    generalize l[i] = p at hfe hdr
    obtain ⟨rs, hfe, ⟨ra, rcap, rfl, hrc, hrf⟩, hnr, hor⟩ := hfe
    have e21 := f21 (w0 := w0) (t := t) p.book p.sheet p.col p.row hh
    have hcut := cut_rows (P := Try.prog) (a := ra) Try.underlying80 sizeT_23 hrc
    have hmin := min10 p.reads.length
    have hnbx : noBx xs = true ∧ oneA xs = true := hI.left.nb
    have hnby : noBx ys = true ∧ oneA ys = true := hI.right.nb
    obtain ⟨G, hG⟩ := skol (P := fun a' : (Nat → AV) × Loc × Option Nat => lwOver a'.2.2 lo = true ∧ locGet a'.2.1 10 = some (genOf (a'.1 10), .cells [vS (cutN 20 p.sheet), vI p.col, vI p.row, .val (.slice none 0 0)]) ∧ locGet a'.2.1 11 = some (genOf (a'.1 11), .cells [vS .empty, vS (cutN 20 p.sheet), vI p.col, vI p.row, .val (.slice none 0 0)]) ∧ a'.1 10 = .bx 10 (genOf (a'.1 10)) 0 ∧ a'.1 11 = .bx 11 (genOf (a'.1 11)) 0 ∧
        a'.1 104 = .val (.slice ra (min p.reads.length 10) rcap) ∧ a'.1 105 = vI (min p.reads.length 10 : Nat) ∧ a'.1 106 = vI 0)
      (Q := fun a' c => acodeI (cfg w0 t) 7 (.loop (lp Try.f7 1)) ⟨fl 149 a'.1, a'.2.1, hh, a'.2.2⟩ = some (.exit 2, ⟨fl 149 c.1, c.2.1, c.2.2.1, c.2.2.2.1⟩) ∧ locGet c.2.1 10 = some (genOf (a'.1 10), .cells [vS (cutN 20 p.sheet), vI p.col, vI p.row, c.2.2.2.2.1]) ∧ locGet c.2.1 11 = some (genOf (a'.1 11), .cells [vS .empty, vS (cutN 20 p.sheet), vI p.col, vI p.row, c.2.2.2.2.2.1]) ∧
        lwOver c.2.2.2.1 lo = true ∧ (c.1 2 = a'.1 2 ∧ c.1 3 = a'.1 3 ∧ c.1 6 = a'.1 6 ∧ c.1 7 = a'.1 7 ∧ c.1 10 = a'.1 10 ∧ c.1 11 = a'.1 11 ∧ c.1 66 = a'.1 66 ∧ c.1 67 = a'.1 67 ∧ c.1 68 = a'.1 68) ∧ (locGet c.2.1 2 = locGet a'.2.1 2 ∧ locGet c.2.1 3 = locGet a'.2.1 3 ∧ locGet c.2.1 6 = locGet a'.2.1 6 ∧ locGet c.2.1 7 = locGet a'.2.1 7) ∧
        (noBx c.2.2.2.2.1 = true ∧ oneA c.2.2.2.2.1 = true ∧ noBx c.2.2.2.2.2.1 = true ∧ oneA c.2.2.2.2.2.1 = true) ∧
        doHeap (cfg w0 t) (acallI (cfg w0 t)) c.2.2.1 (.app 85 xs (.lit [vS (cutN 20 p.sheet), vI p.col, vI p.row, c.2.2.2.2.1] 1)) = some (.val c.2.2.2.2.2.2.1 c.2.2.2.2.2.2.2.1 c.2.2.2.2.2.2.2.2.1) ∧
        doHeap (cfg w0 t) (acallI (cfg w0 t)) c.2.2.2.2.2.2.2.1 (.app 88 ys (.lit [vS .empty, vS (cutN 20 p.sheet), vI p.col, vI p.row, c.2.2.2.2.2.1] 1)) = some (.val c.2.2.2.2.2.2.2.2.2.1 c.2.2.2.2.2.2.2.2.2.2.1 c.2.2.2.2.2.2.2.2.2.2.2) ∧
        E2I lo c.2.2.2.2.2.2.2.2.2.2.1 (acc ++ [cutE p]) c.2.2.2.2.2.2.1 c.2.2.2.2.2.2.2.2.2.1 ∧ lwOver c.2.2.2.2.2.2.2.2.1 lo = true ∧ lwOver c.2.2.2.2.2.2.2.2.2.2.2 lo = true ∧ lo ≤ c.2.2.2.2.2.2.2.2.2.2.1.length ∧
        (noBx c.2.2.2.2.2.2.1 = true ∧ oneA c.2.2.2.2.2.2.1 = true ∧ noBx c.2.2.2.2.2.2.2.2.2.1 = true ∧ oneA c.2.2.2.2.2.2.2.2.2.1 = true))
      (β := (Nat → AV) × Loc × H × Option Nat × AV × AV × AV × H × Option Nat × AV × H × Option Nat) (fun a' ha' => by
        obtain ⟨F', loc', v1, v2, hh', lw', q1, q2, q3, q4, q5, k2, k3, k6, k7, k10, k11, k66, k67, k68, m2, m3, m6, m7⟩ := L7r (w0 := w0) (t := t) hh lo hlo ra rcap p.reads hrf (genOf (a'.1 10)) (genOf (a'.1 11)) _ _ _ _ _ _ _ a'.1 a'.2.1 a'.2.2 ha'.1 ha'.2.1 ha'.2.2.1 ha'.2.2.2.1 ha'.2.2.2.2.1 ha'.2.2.2.2.2.1 ha'.2.2.2.2.2.2.1 ha'.2.2.2.2.2.2.2
        rw [List.nil_append] at q2
        obtain ⟨ex, hex⟩ := q2.le
        have hI' : E2I lo hh' acc xs ys := hI.move (fun j _ hj => by rw [hex, List.getElem?_append_left hj])
        have hold : ∀ (v : AV), (v = xs ∨ v = ys) → ∀ b g o n es, v = .sl b g o n es → b < hh.length := by
          intro v hv b g o n es q
          rcases hI with ⟨_, e1, e2⟩ | ⟨b1, g1, c1', b2, g2, c2', e1, e2, _, _, _, e6, e7, _⟩
          · rcases hv with rfl | rfl
            · rw [e1] at q; cases q
            · rw [e2] at q; cases q
          · rcases hv with rfl | rfl
            · rw [e1] at q; cases q; exact (List.getElem?_eq_some_iff.1 e6).1
            · rw [e2] at q; cases q; exact (List.getElem?_eq_some_iff.1 e7).1
        have hnew : ∀ (v : AV), (v = v1 ∨ v = v2) → ∀ b g o n es, v = .sl b g o n es → hh.length ≤ b := by
          intro v hv b g o n es q
          rcases q2 with ⟨_, _, e1, e2, _⟩ | ⟨g1, g2, e1, e2, _⟩
          · rcases hv with rfl | rfl
            · rw [e1] at q; cases q
            · rw [e2] at q; cases q
          · rcases hv with rfl | rfl
            · rw [e1] at q; cases q; exact Nat.le_refl _
            · rw [e2] at q; cases q; exact Nat.le_succ _
        have hn : ∀ (v : AV), (v = v1 ∨ v = v2) → ∀ b g o n es, v = .sl b g o n es → lo ≤ b ∧ (∀ b' g' o' n' es', xs = .sl b' g' o' n' es' → b ≠ b') ∧ (∀ b' g' o' n' es', ys = .sl b' g' o' n' es' → b ≠ b') := by
          intro v hv b g o n es q
          have h1 := hnew v hv b g o n es q
          refine ⟨by omega, fun b' g' o' n' es' q' => ?_, fun b' g' o' n' es' q' => ?_⟩
          · have := hold xs (.inl rfl) _ _ _ _ _ q'; omega
          · have := hold ys (.inr rfl) _ _ _ _ _ q'; omega
        have hS := q2.slR
        obtain ⟨xs', hA, lw1, ys', hB, lw2, r1, r2, r3, r4, r5, r6, r7⟩ := app_e2 (w0 := w0) (t := t) (call := acallI (cfg w0 t)) hI' (cutE p) v1 v2 hS.1 hS.2 (hn v1 (.inl rfl)) (hn v2 (.inr rfl)) (by rw [hex]; simp; omega) (by omega)
        have hle : hh.length ≤ hh'.length := by rw [hex]; simp
        exact ⟨(F', loc', hh', lw', v1, v2, xs', hA, lw1, ys', hB, lw2), q1, q3, q4, q5, ⟨k2, k3, k6, k7, k10, k11, k66, k67, k68⟩, ⟨m2, m3, m6, m7⟩, q2.nb, r1, r2, r3, r4, r5, by simp only; omega, r7⟩)
    have G1 := fun F loc lw hc => (hG (F, loc, lw) hc).1
    have G2 := fun F loc lw hc => (hG (F, loc, lw) hc).2.1
    have G3 := fun F loc lw hc => (hG (F, loc, lw) hc).2.2.1
    have G4 := fun F loc lw hc => (hG (F, loc, lw) hc).2.2.2.1
    have K2 := fun F loc lw hc => (hG (F, loc, lw) hc).2.2.2.2.1.1
    have K3 := fun F loc lw hc => (hG (F, loc, lw) hc).2.2.2.2.1.2.1
    have K6 := fun F loc lw hc => (hG (F, loc, lw) hc).2.2.2.2.1.2.2.1
    have K7 := fun F loc lw hc => (hG (F, loc, lw) hc).2.2.2.2.1.2.2.2.1
    have K10 := fun F loc lw hc => (hG (F, loc, lw) hc).2.2.2.2.1.2.2.2.2.1
    have K11 := fun F loc lw hc => (hG (F, loc, lw) hc).2.2.2.2.1.2.2.2.2.2.1
    have K66 := fun F loc lw hc => (hG (F, loc, lw) hc).2.2.2.2.1.2.2.2.2.2.2.1
    have K67 := fun F loc lw hc => (hG (F, loc, lw) hc).2.2.2.2.1.2.2.2.2.2.2.2.1
    have K68 := fun F loc lw hc => (hG (F, loc, lw) hc).2.2.2.2.1.2.2.2.2.2.2.2.2
    have M2 := fun F loc lw hc => (hG (F, loc, lw) hc).2.2.2.2.2.1.1
    have M3 := fun F loc lw hc => (hG (F, loc, lw) hc).2.2.2.2.2.1.2.1
    have M6 := fun F loc lw hc => (hG (F, loc, lw) hc).2.2.2.2.2.1.2.2.1
    have M7 := fun F loc lw hc => (hG (F, loc, lw) hc).2.2.2.2.2.1.2.2.2
    have N1 := fun F loc lw hc => (hG (F, loc, lw) hc).2.2.2.2.2.2.1.1
    have N2 := fun F loc lw hc => (hG (F, loc, lw) hc).2.2.2.2.2.2.1.2.1
    have N3 := fun F loc lw hc => (hG (F, loc, lw) hc).2.2.2.2.2.2.1.2.2.1
    have N4 := fun F loc lw hc => (hG (F, loc, lw) hc).2.2.2.2.2.2.1.2.2.2
    have A1 := fun F loc lw hc => (hG (F, loc, lw) hc).2.2.2.2.2.2.2.1
    have A2 := fun F loc lw hc => (hG (F, loc, lw) hc).2.2.2.2.2.2.2.2.1
    have A3 := fun F loc lw hc => (hG (F, loc, lw) hc).2.2.2.2.2.2.2.2.2.1
    have A4 := fun F loc lw hc => (hG (F, loc, lw) hc).2.2.2.2.2.2.2.2.2.2.1
    have A5 := fun F loc lw hc => (hG (F, loc, lw) hc).2.2.2.2.2.2.2.2.2.2.2.1
    have A6 := fun F loc lw hc => (hG (F, loc, lw) hc).2.2.2.2.2.2.2.2.2.2.2.2.1
    have A7 := fun F loc lw hc => (hG (F, loc, lw) hc).2.2.2.2.2.2.2.2.2.2.2.2.2.1
    have A8 := fun F loc lw hc => (hG (F, loc, lw) hc).2.2.2.2.2.2.2.2.2.2.2.2.2.2.1
    have A9 := fun F loc lw hc => (hG (F, loc, lw) hc).2.2.2.2.2.2.2.2.2.2.2.2.2.2.2.1
    have A0 := fun F loc lw hc => (hG (F, loc, lw) hc).2.2.2.2.2.2.2.2.2.2.2.2.2.2.2.2
    clear hG
    have C8 := fun F loc lw hc => c_one (A8 F loc lw hc)
    have C0 := fun F loc lw hc => c_one (A0 F loc lw hc)
    have ih := ih (i + 1) (acc ++ [cutE p])
    rw [hdr, List.map_cons]
    dsimp only [lp, loopsOf, Try.f7, Option.getD, List.append_eq, List.nil_append, List.cons_append, List.getElem?_cons_zero, List.getElem?_cons_succ] at G1 ih ⊢
    rw [X_loop]
    simp only [reduceIte, reduceCtorEq, Nat.reduceAdd, Nat.reduceMul, Nat.reduceSub, Nat.reduceEqDiff, Nat.reduceLT, Nat.reduceLeDiff, Nat.reduceBEq, Int.reduceLT, Int.reduceLE, Int.reduceEq,
    Int.reduceNe, Int.reduceAdd, Int.reduceSub, Int.reduceMul, Int.reduceToNat, push_cast, pairsOk, locGet_set, p2_int, intBin, load_val, zerosA, List.range, List.range.loop, Nat.zero_mod, getT, genOf_bx, len_slice Try.underlying80, h6, h7, h66, h67, h68, l6, l7, e, hix, hfe, hnr, hor, e21, hmin, hcut, hnbx.1, hnbx.2, hnby.1, hnby.2, hlw, hw, G1, G2, G3, G4, K2, K3, K6, K7, K10, K11, K66, K67, K68, M6, M7, N1, N2, N3, N4, A1, A2, A7, A8, A9, A0, C8, C0]
    refine R7o.step (ih _ _ _ _ _ _ (by omega) (by simp [hacc]) ?_ (A6 _ _ _ ?_) (A3 _ _ _ ?_) ?_ ?_ ?_ ?_ ?_ ?_ ?_) ?_ ?_ ?_ ?_ ?_ ?_ <;> simp only [reduceIte, reduceCtorEq, Nat.reduceAdd, Nat.reduceMul, Nat.reduceSub, Nat.reduceEqDiff, Nat.reduceLT, Nat.reduceLeDiff, Nat.reduceBEq, Int.reduceLT, Int.reduceLE, Int.reduceEq,
    Int.reduceNe, Int.reduceAdd, Int.reduceSub, Int.reduceMul, Int.reduceToNat, push_cast, pairsOk, locGet_set, genOf_bx, h6, h7, h66, h67, h68, l6, l7, hlw, G2, G3, G4, K2, K3, K6, K7, K10, K11, K66, K67, K68, M2, M3, M6, M7, A4, A5, A7, A8, A9, A0]
end Go.Proofs.Ytmglahnoemgieaa.Ax
namespace Go.Proofs.Ytmglahnoemgieaa.Ax
open Go Go.RowKit
set_option linter.unusedSimpArgs false
set_option linter.unusedVariables false
set_option linter.unnecessarySimpa false
set_option maxHeartbeats 8000000
set_option maxRecDepth 4000
variable {w0 : World} {t : Option Gf}
/-- a message as the caller has it -/
structure XM where
  kind : Int
  ticket : Int
  ver : Int
  book : ByteArray
  sheet : ByteArray
  col : Int
  row : Int
  v : Val
  edges : List XE
def cutVal (v : Val) : Val := (v.1, v.2.1, cutN 300 v.2.2.1, v.2.2.2.1, v.2.2.2.2)
def msgOf (x : XM) : Msg := ⟨x.kind, x.ticket, cutN 20 x.sheet, x.col, x.row, x.ver, cutVal x.v, (x.edges.take 10).map cutE⟩
def xArg (x : XM) (es : Value) : AV := .agg [vI x.kind, vI x.ticket, vI x.ver, vS x.book, vS x.sheet, vI x.col, vI x.row, vI x.v.1, vI x.v.2.1, vS x.v.2.2.1, vB x.v.2.2.2.1, vI x.v.2.2.2.2, .val es]
theorem E2I.down {h hh : H} {l : List Ed} {xs ys : AV} (k : E2I h.length hh l xs ys) (h1 : belowA h.length xs = true) : l = [] ∧ xs = .val (.slice none 0 0) ∧ ys = .val (.slice none 0 0) := by
  rcases k with k | ⟨b1, g1, c1, b2, g2, c2, rfl, rfl, q1, q2, q3, _⟩
  · exact k
  · simp only [belowA, decide_eq_true_eq] at h1; omega
theorem f7 (x : XM) (es : Value) (he : FEds w0 es x.edges) (h : H) : ∃ xs ys h', acallI (cfg w0 t) 7 [xArg x es] h = some (.ret (.tup [.agg (vM (msgOf x).kind (msgOf x).ticket (msgOf x).sheet (msgOf x).col (msgOf x).row (msgOf x).ver (msgOf x).v xs), .agg (vN (msgOf x).kind (msgOf x).ticket (msgOf x).ver (msgOf x).sheet (msgOf x).col (msgOf x).row (msgOf x).v ys)]), h', none) ∧ E2I h.length h' (msgOf x).edges xs ys ∧ h.length ≤ h'.length := by
  rw [E7]
  obtain ⟨ea, ecap, rfl, hec, hef⟩ := he
  have e20 := f20 (w0 := w0) (t := t) x.v.1 x.v.2.1 x.v.2.2.1 x.v.2.2.2.1 x.v.2.2.2.2 h
  have e21 := f21 (w0 := w0) (t := t) x.book x.sheet x.col x.row h
  have hcut := cut_rows (P := Try.prog) (a := ea) Try.underlying26 sizeT_82 hec
  have hmin := min10 x.edges.length
  have hbs : noBx (.val (.slice ea x.edges.length ecap)) = true ∧ oneA (.val (.slice ea x.edges.length ecap)) = true := ⟨rfl, rfl⟩
  have hL : ∀ (F : Nat → AV) (loc : Loc) (lw : Option Nat), lwOver lw h.length = true → locGet loc 6 = some (1, .cells (vM x.kind x.ticket (cutN 20 x.sheet) x.col x.row x.ver (cutVal x.v) (.val (.slice none 0 0)))) → locGet loc 7 = some (1, .cells (vN x.kind x.ticket x.ver (cutN 20 x.sheet) x.col x.row (cutVal x.v) (.val (.slice none 0 0)))) →
      F 6 = .bx 6 1 0 → F 7 = .bx 7 1 0 → F 66 = .val (.slice ea (min x.edges.length 10) ecap) → F 67 = vI (min x.edges.length 10 : Nat) → F 68 = vI 0 →
      R7o h.length [] (fun xs => vM x.kind x.ticket (cutN 20 x.sheet) x.col x.row x.ver (cutVal x.v) xs) (fun ys => vN x.kind x.ticket x.ver (cutN 20 x.sheet) x.col x.row (cutVal x.v) ys) loc F ((x.edges.take 10).map cutE) (acodeI (cfg w0 t) 7 (.loop (lp Try.f7 0)) ⟨fl 149 F, loc, h, lw⟩) := by
    intro F loc lw hlw l6 l7 h6 h7 h66 h67 h68
    cases hr : x.edges with
    | nil =>
      rw [hr] at h67
      exact L7oz h.length [] _ _ _ _ h (Nat.le_refl _) (.inl ⟨rfl, rfl, rfl⟩) F loc lw 0 hlw l6 l7 h67 h68
    | cons p r =>
      obtain ⟨ad, ha, _⟩ := hef 0 p (by rw [hr]; rfl)
      subst ha
      rw [← hr]
      have hl := take_len x.edges
      refine L7o h.length ad ecap (x.edges.take 10) ?_ (by omega) _ _ _ _ _ _ _ _ _ _ _ _ _ _ _ _ _ _ _ _ _ _ _ (x.edges.take 10).length 0 [] _ _ h F loc lw (by omega) rfl hlw (Nat.le_refl _) (.inl ⟨rfl, rfl, rfl⟩) l6 l7 h6 h7 (by rw [hl]; exact h66) (by rw [hl]; exact h67) h68
      intro i q hq
      have hi := (List.getElem?_eq_some_iff.1 hq).1
      rw [List.getElem?_take_of_lt (by omega)] at hq
      obtain ⟨ad', h1, h2⟩ := hef i q hq
      cases h1
      exact h2
  obtain ⟨G, hG⟩ := skol (P := fun a' : (Nat → AV) × Loc × Option Nat => lwOver a'.2.2 h.length = true ∧ locGet a'.2.1 6 = some (1, .cells (vM x.kind x.ticket (cutN 20 x.sheet) x.col x.row x.ver (cutVal x.v) (.val (.slice none 0 0)))) ∧ locGet a'.2.1 7 = some (1, .cells (vN x.kind x.ticket x.ver (cutN 20 x.sheet) x.col x.row (cutVal x.v) (.val (.slice none 0 0)))) ∧ a'.1 6 = .bx 6 1 0 ∧ a'.1 7 = .bx 7 1 0 ∧ a'.1 66 = .val (.slice ea (min x.edges.length 10) ecap) ∧ a'.1 67 = vI (min x.edges.length 10 : Nat) ∧ a'.1 68 = vI 0)
    (Q := fun a' c => acodeI (cfg w0 t) 7 (.loop (lp Try.f7 0)) ⟨fl 149 a'.1, a'.2.1, h, a'.2.2⟩ = some (.exit 0, ⟨fl 149 c.1, c.2.1, c.2.2.1, c.2.2.2.1⟩) ∧ locGet c.2.1 6 = some (1, .cells (vM x.kind x.ticket (cutN 20 x.sheet) x.col x.row x.ver (cutVal x.v) c.2.2.2.2.1)) ∧ locGet c.2.1 7 = some (1, .cells (vN x.kind x.ticket x.ver (cutN 20 x.sheet) x.col x.row (cutVal x.v) c.2.2.2.2.2)) ∧ lwOver c.2.2.2.1 h.length = true ∧
      (c.1 2 = a'.1 2 ∧ c.1 3 = a'.1 3 ∧ c.1 6 = a'.1 6 ∧ c.1 7 = a'.1 7) ∧ (locGet c.2.1 2 = locGet a'.2.1 2 ∧ locGet c.2.1 3 = locGet a'.2.1 3) ∧ E2I h.length c.2.2.1 ((x.edges.take 10).map cutE) c.2.2.2.2.1 c.2.2.2.2.2 ∧ h.length ≤ c.2.2.1.length ∧ (noBx c.2.2.2.2.1 = true ∧ oneA c.2.2.2.2.1 = true ∧ noBx c.2.2.2.2.2 = true ∧ oneA c.2.2.2.2.2 = true))
    (β := (Nat → AV) × Loc × H × Option Nat × AV × AV) (fun a' ha' => by
      obtain ⟨F', loc', xs, ys, hh, lw', q1, q2, q3, q4, q5, q6, k2, k3, k6, k7, m2, m3⟩ := hL a'.1 a'.2.1 a'.2.2 ha'.1 ha'.2.1 ha'.2.2.1 ha'.2.2.2.1 ha'.2.2.2.2.1 ha'.2.2.2.2.2.1 ha'.2.2.2.2.2.2.1 ha'.2.2.2.2.2.2.2
      rw [List.nil_append] at q2
      exact ⟨(F', loc', hh, lw', xs, ys), q1, q3, q4, q5, ⟨k2, k3, k6, k7⟩, ⟨m2, m3⟩, q2, q6, q2.left.nb.1, q2.left.nb.2, q2.right.nb.1, q2.right.nb.2⟩)
  have G1 := fun F loc lw hc => (hG (F, loc, lw) hc).1
  have G2 := fun F loc lw hc => (hG (F, loc, lw) hc).2.1
  have G3 := fun F loc lw hc => (hG (F, loc, lw) hc).2.2.1
  have G4 := fun F loc lw hc => (hG (F, loc, lw) hc).2.2.2.1
  have K2 := fun F loc lw hc => (hG (F, loc, lw) hc).2.2.2.2.1.1
  have K3 := fun F loc lw hc => (hG (F, loc, lw) hc).2.2.2.2.1.2.1
  have K6 := fun F loc lw hc => (hG (F, loc, lw) hc).2.2.2.2.1.2.2.1
  have K7 := fun F loc lw hc => (hG (F, loc, lw) hc).2.2.2.2.1.2.2.2
  have M2 := fun F loc lw hc => (hG (F, loc, lw) hc).2.2.2.2.2.1.1
  have M3 := fun F loc lw hc => (hG (F, loc, lw) hc).2.2.2.2.2.1.2
  have A1 := fun F loc lw hc => (hG (F, loc, lw) hc).2.2.2.2.2.2.1
  have A2 := fun F loc lw hc => (hG (F, loc, lw) hc).2.2.2.2.2.2.2.1
  have N1 := fun F loc lw hc => (hG (F, loc, lw) hc).2.2.2.2.2.2.2.2.1
  have N2 := fun F loc lw hc => (hG (F, loc, lw) hc).2.2.2.2.2.2.2.2.2.1
  have N3 := fun F loc lw hc => (hG (F, loc, lw) hc).2.2.2.2.2.2.2.2.2.2.1
  have N4 := fun F loc lw hc => (hG (F, loc, lw) hc).2.2.2.2.2.2.2.2.2.2.2
  clear hG hL
  unfold xArg
  simp only [msgOf]
  generalize hedges : (x.edges.take 10).map cutE = eds at A1 ⊢
  generalize hcv : cutVal x.v = cv at *
  have hv1 : x.v.1 = cv.1 := by rw [← hcv]; rfl
  have hv2 : x.v.2.1 = cv.2.1 := by rw [← hcv]; rfl
  have hv3 : cutN 300 x.v.2.2.1 = cv.2.2.1 := by rw [← hcv]; rfl
  have hv4 : x.v.2.2.2.1 = cv.2.2.2.1 := by rw [← hcv]; rfl
  have hv5 : x.v.2.2.2.2 = cv.2.2.2.2 := by rw [← hcv]; rfl
  rw [hv1, hv2, hv3, hv4, hv5] at e20
  rw [hv1, hv2, hv4, hv5]
  dsimp only [lp, loopsOf, Try.f7, Option.getD, List.append_eq, List.nil_append, List.cons_append, List.getElem?_cons_zero, List.getElem?_cons_succ] at G1 ⊢
  simp only [reduceIte, reduceCtorEq, Nat.reduceAdd, Nat.reduceMul, Nat.reduceSub, Nat.reduceEqDiff, Nat.reduceLT, Nat.reduceLeDiff, Nat.reduceBEq, Int.reduceLT, Int.reduceLE, Int.reduceEq,
    Int.reduceNe, Int.reduceAdd, Int.reduceSub, Int.reduceMul, Int.reduceToNat, push_cast, pairsOk, locGet, locSet, nextGen, p2_int, intBin, len_slice Try.underlying26, slih_slice, e20, e21, hcut, hmin, G1, G2, G3, G4, K2, K3, K6, K7, M2, M3, N1, N2, N3, N4, locGet_set]
  split
  · rename_i hb
    simp only [Bool.and_eq_true] at hb
    obtain ⟨r1, r2, r3⟩ := E2I.down (A1 _ _ _ (by simp only [reduceIte, reduceCtorEq, Nat.reduceAdd, Nat.reduceMul, Nat.reduceSub, Nat.reduceEqDiff, Nat.reduceLT, Nat.reduceLeDiff, Nat.reduceBEq, Int.reduceLT, Int.reduceLE, Int.reduceEq,
    Int.reduceNe, Int.reduceAdd, Int.reduceSub, Int.reduceMul, Int.reduceToNat, push_cast, pairsOk, locGet, locSet, nextGen])) hb.1
    exact ⟨_, _, _, rfl, .inl ⟨r1, r2, r3⟩, Nat.le_refl _⟩
  · exact ⟨_, _, _, rfl, A1 _ _ _ (by simp only [reduceIte, reduceCtorEq, Nat.reduceAdd, Nat.reduceMul, Nat.reduceSub, Nat.reduceEqDiff, Nat.reduceLT, Nat.reduceLeDiff, Nat.reduceBEq, Int.reduceLT, Int.reduceLE, Int.reduceEq,
    Int.reduceNe, Int.reduceAdd, Int.reduceSub, Int.reduceMul, Int.reduceToNat, push_cast, pairsOk, locGet, locSet, nextGen]), A2 _ _ _ (by simp only [reduceIte, reduceCtorEq, Nat.reduceAdd, Nat.reduceMul, Nat.reduceSub, Nat.reduceEqDiff, Nat.reduceLT, Nat.reduceLeDiff, Nat.reduceBEq, Int.reduceLT, Int.reduceLE, Int.reduceEq,
    Int.reduceNe, Int.reduceAdd, Int.reduceSub, Int.reduceMul, Int.reduceToNat, push_cast, pairsOk, locGet, locSet, nextGen])⟩
end Go.Proofs.Ytmglahnoemgieaa.Ax
namespace Go.Proofs.Ytmglahnoemgieaa.Ax
open Go Go.RowKit
set_option linter.unusedSimpArgs false
set_option linter.unusedVariables false
set_option linter.unnecessarySimpa false
set_option maxHeartbeats 8000000
set_option maxRecDepth 4000
variable {w0 : World} {t : Option Gf}
theorem msgOf_small (x : XM) : msgSmall (msgOf x) ∧ edsW (msgOf x).edges ≤ 900000000 ∧ (∀ e ∈ (msgOf x).edges, e.reads.length ≤ 10) ∧ (msgOf x).edges.length ≤ 10 := by
  have hc : ∀ (n : Nat) (s : ByteArray), n ≤ 300 → (cutN n s).size ≤ 300 := by intro n s hn; rw [cutN_size]; omega
  have hed : ∀ e ∈ (msgOf x).edges, edSmall e ∧ e.reads.length ≤ 10 := by
    intro e he
    simp only [msgOf, List.mem_map] at he
    obtain ⟨a, _, rfl⟩ := he
    have hl : (cutE a).reads.length ≤ 10 := by
      simp only [cutE, List.length_map, take_len]; omega
    refine ⟨⟨?_, ?_, by omega⟩, hl⟩
    · intro p hp
      simp only [cutE, List.mem_map] at hp
      obtain ⟨q, _, rfl⟩ := hp
      have h1 := hc 20 q.book (by omega)
      have h2 := hc 20 q.sheet (by omega)
      simp only [plSmall, cutP]
      omega
    · have h1 := hc 20 a.sheet (by omega)
      simp only [cutE]
      omega
  have hlen : (msgOf x).edges.length ≤ 10 := by simp only [msgOf, List.length_map, take_len]; omega
  refine ⟨⟨?_, fun e he => (hed e he).1, by omega⟩, ?_, fun e he => (hed e he).2, hlen⟩
  · have := hc 20 x.sheet (by omega)
    simp only [msgOf]
    omega
  · have : ∀ (l : List Ed), (∀ e ∈ l, e.reads.length ≤ 10) → edsW l ≤ l.length * 33000 := by
      intro l hl
      induction l with
      | nil => simp [edsW]
      | cons a l ih =>
        have h1 := ih (fun e he => hl e (List.mem_cons_of_mem _ he))
        have h2 := hl a List.mem_cons_self
        have h3 : edsW (a :: l) = (3000 + a.reads.length * 3000) + edsW l := by simp [edsW]
        rw [h3, List.length_cons]
        omega
    have := this _ (fun e he => (hed e he).2)
    omega
theorem enc_inj {a b : Msg} (ha : msgGood a = true) (hb : msgGood b = true) (h : bs (encM a) = bs (encM b)) : a = b := by
  have h1 := getM_iff.2 ⟨ha, h⟩
  have h2 := getM_iff.2 ⟨hb, rfl⟩
  rw [h1] at h2
  exact Option.some.inj h2
theorem f7_low (ok : CfgOk (cfg w0 t)) {x : XM} {es : Value} {h h' : H} {out : Out} (e : acallI (cfg w0 t) 7 [xArg x es] h = some (out, h', none)) : ∀ j, j < h.length → h'[j]? = h[j]? :=
  fun j hj => low_get (call_low ok e rfl (Nat.le_refl _)) hj
theorem f6 (x y : XM) (es fs : Value) (hx : FEds w0 es x.edges) (hy : FEds w0 fs y.edges) (h : H) : acallI (cfg w0 (some (g15 w0))) 6 [xArg x es, xArg y fs] h = some (.ret (vB true), h, none) := by
  have ok := cfg_ok w0
  rw [E6]
  obtain ⟨xs1, ys1, h1, e1, I1, l1⟩ := f7 (w0 := w0) (t := some (g15 w0)) x es hx h
  obtain ⟨xs2, ys2, h2, e2, I2, l2⟩ := f7 (w0 := w0) (t := some (g15 w0)) y fs hy h1
  have lo2 := f7_low ok e2
  have I1' := I1.move (h' := h2) (fun j _ hj => lo2 j hj)
  obtain ⟨s1, w1, _, _⟩ := msgOf_small x
  obtain ⟨s2, w2, r2, n2⟩ := msgOf_small y
  have e3 := f8 ok (msgOf x) s1 xs1 h2 I1'.left.edsV w1
  have e4 := f8 ok (msgOf y) s2 xs2 h2 I2.left.edsV w2
  rw [bs_eq] at e3 e4
  have e5 := f12 (w0 := w0) h2
  have e6 := f19 (w0 := w0) (t := some (g15 w0)) (msgOf x) (msgOf y) (fun e he => by have := (msgOf_small x).2.2.1 e he; omega) (by have := (msgOf_small x).2.2.2; omega) xs1 ys2 h2 I1'.left.edsV I2.right.redsV
  have hb1 := I1.left.nb
  have hb2 := I1.right.nb
  have hb3 := I2.left.nb
  have hb4 := I2.right.nb
  have hargs : ∀ (x : XM) (es : Value), FEds w0 es x.edges → (noBx (.val es) = true ∧ oneA (.val es) = true) := by
    intro x es hx
    obtain ⟨a, cap, rfl, _⟩ := hx
    exact ⟨rfl, rfl⟩
  have ha1 := hargs x es hx
  have ha2 := hargs y fs hy
  have hcells : ∀ x es, ∃ l, xArg x es = .agg l ∧ l.length = 13 := fun x es => ⟨_, rfl, rfl⟩
  have hsame := sameM_iff (a := msgOf x) (b := msgOf y)
  generalize msgOf x = m1 at *
  generalize msgOf y = m2 at *
  unfold xArg at e1 e2 ⊢
  dsimp only [Try.f6, Option.getD]
  cases g1 : msgGood m1
  · rw [g1] at e3
    cases g2 : msgGood m2
    · rw [g2] at e4
      simp only [reduceIte, reduceCtorEq, Nat.reduceAdd, Nat.reduceMul, Nat.reduceSub, Nat.reduceEqDiff, Nat.reduceLT, Nat.reduceLeDiff, Nat.reduceBEq, Int.reduceLT, Int.reduceLE, Int.reduceEq,
    Int.reduceNe, Int.reduceAdd, Int.reduceSub, Int.reduceMul, Int.reduceToNat, push_cast, pairsOk, locGet, locSet, nextGen, p2_int, intBin, e1, e2, e3, e4, e5, hb1.1, hb1.2, hb2.1, hb2.2, hb3.1, hb3.2, hb4.1, hb4.2]
    · rw [g2] at e4
      simp only [reduceIte, reduceCtorEq, Nat.reduceAdd, Nat.reduceMul, Nat.reduceSub, Nat.reduceEqDiff, Nat.reduceLT, Nat.reduceLeDiff, Nat.reduceBEq, Int.reduceLT, Int.reduceLE, Int.reduceEq,
    Int.reduceNe, Int.reduceAdd, Int.reduceSub, Int.reduceMul, Int.reduceToNat, push_cast, pairsOk, locGet, locSet, nextGen, p2_int, intBin, e1, e2, e3, e4, e5, hb1.1, hb1.2, hb2.1, hb2.2, hb3.1, hb3.2, hb4.1, hb4.2]
  rw [g1] at e3
  cases g2 : msgGood m2
  · rw [g2] at e4
    simp only [reduceIte, reduceCtorEq, Nat.reduceAdd, Nat.reduceMul, Nat.reduceSub, Nat.reduceEqDiff, Nat.reduceLT, Nat.reduceLeDiff, Nat.reduceBEq, Int.reduceLT, Int.reduceLE, Int.reduceEq,
    Int.reduceNe, Int.reduceAdd, Int.reduceSub, Int.reduceMul, Int.reduceToNat, push_cast, pairsOk, locGet, locSet, nextGen, p2_int, intBin, e1, e2, e3, e4, e5, hb1.1, hb1.2, hb2.1, hb2.2, hb3.1, hb3.2, hb4.1, hb4.2]
  rw [g2] at e4
  have hdec : decide (bs (encM m1) = bs (encM m2)) = sameM m1 m2 := by
    by_cases q : m1 = m2
    · rw [hsame.2 q, q]; simp
    · have : ¬ (bs (encM m1) = bs (encM m2)) := fun k => q (enc_inj g1 g2 k)
      rw [decide_eq_false this]
      cases hs : sameM m1 m2
      · rfl
      · exact absurd (hsame.1 hs) q
  generalize bs (encM m1) = u1 at *
  generalize bs (encM m2) = u2 at *
  generalize sameM m1 m2 = sm at *
  subst hdec
  simp only [reduceIte, reduceCtorEq, Nat.reduceAdd, Nat.reduceMul, Nat.reduceSub, Nat.reduceEqDiff, Nat.reduceLT, Nat.reduceLeDiff, Nat.reduceBEq, Int.reduceLT, Int.reduceLE, Int.reduceEq,
    Int.reduceNe, Int.reduceAdd, Int.reduceSub, Int.reduceMul, Int.reduceToNat, push_cast, pairsOk, locGet, locSet, nextGen, p2_int, intBin, p2_str, strBin, p2_bool Try.underlying4, e1, e2, e3, e4, e5, e6, hb1.1, hb1.2, hb2.1, hb2.2, hb3.1, hb3.2, hb4.1, hb4.2]
end Go.Proofs.Ytmglahnoemgieaa.Ax
