/- The law PacketPuts, as the machine has it. (And what follows from it, text by text.) -/
import Derived.Test.YtmglahnoemgieaaM17
namespace Go.Proofs.Ytmglahnoemgieaa.Ax
open Go Go.RowKit
set_option linter.unusedSimpArgs false
set_option linter.unusedVariables false
set_option linter.unnecessarySimpa false
set_option maxHeartbeats 8000000
set_option maxRecDepth 4000
variable {w0 : World} {t : Option Gf}
/-- what a packet's bytes are, and the error -/
def pT (ack : Bool) (inc seq : Int) (body : ByteArray) : ByteArray := if pkGood ack inc seq body then pkEnc ack inc seq body else .empty
def pE (ack : Bool) (inc seq : Int) (body : ByteArray) : Int := if pkGood ack inc seq body then 0 else 4
theorem pk_out (ack : Bool) (inc seq : Int) (body : ByteArray) : (if pkGood ack inc seq body then [vS (pkEnc ack inc seq body), vI 0] else [vS .empty, vI 4]) = [vS (pT ack inc seq body), vI (pE ack inc seq body)] := by
  unfold pT pE
  cases pkGood ack inc seq body <;> rfl
def mT (m : Msg) : ByteArray := if msgGood m then bs (encM m) else .empty
def mE (m : Msg) : Int := if msgGood m then 0 else 4
theorem m_out (m : Msg) : (if msgGood m then [vS (bs (encM m)), vI 0] else [vS .empty, vI 4]) = [vS (mT m), vI (mE m)] := by
  unfold mT mE
  cases msgGood m <;> rfl
theorem mT_len {m : Msg} (hw : edsW m.edges ≤ 900000000) : (mT m).size ≤ 1000000000 := by
  unfold mT
  cases g : msgGood m
  · simp
  · rw [if_pos rfl, bs_size]; exact encM_len g hw
theorem f3 (x : XM) (es : Value) (hx : FEds w0 es x.edges) (inc seq : Int) (h : H) :
    acallI (cfg w0 (some (g15 w0))) 3 [xArg x es, vI inc, vI seq] h = some (.ret (vB true), h, none) := by
  have ok := cfg_ok w0
  rw [E3]
  obtain ⟨xs1, ys1, h1, e1, I1, l1⟩ := f7 (w0 := w0) (t := some (g15 w0)) x es hx h
  obtain ⟨s1, w1, r1, c1⟩ := msgOf_small x
  have e3 := f8 ok (msgOf x) s1 xs1 h1 I1.left.edsV w1
  have e4 := f9 ok (msgOf x) s1 ys1 h1 I1.right.redsV
  rw [bs_eq, m_out] at e3
  rw [m_out] at e4
  have e5 := f12 (w0 := w0) h1
  have e6 := f13 (w0 := w0) (t := some (g15 w0)) (msgOf x) s1 xs1 h1 I1.left.edsV
  have e7 := f14 (w0 := w0) (t := some (g15 w0)) (msgOf x) s1 ys1 h1 I1.right.redsV
  have hlen := mT_len w1
  have e8 : ∀ ack, acallI (cfg w0 (some (g15 w0))) 10 [.agg [vB ack, vI inc, vI seq, vS (mT (msgOf x))]] h1 = _ := fun ack => f10 ok ack inc seq (mT (msgOf x)) (by omega) h1
  have e9 : ∀ ack, acallI (cfg w0 (some (g15 w0))) 11 [.agg [vB ack, vI inc, vI seq, vS (mT (msgOf x))]] h1 = _ := fun ack => f11 ok ack inc seq (mT (msgOf x)) (by omega) h1
  have e8e : ∀ ack, acallI (cfg w0 (some (g15 w0))) 10 [.agg [vB ack, vI inc, vI seq, vS .empty]] h1 = _ := fun ack => f10 ok ack inc seq .empty (by simp) h1
  have e9e : ∀ ack, acallI (cfg w0 (some (g15 w0))) 11 [.agg [vB ack, vI inc, vI seq, vS .empty]] h1 = _ := fun ack => f11 ok ack inc seq .empty (by simp) h1
  simp only [pk_out] at e8 e9 e8e e9e
  have hb1 := I1.left.nb
  have hb2 := I1.right.nb
  have hargs : noBx (.val es) = true ∧ oneA (.val es) = true := by
    obtain ⟨a, cap, rfl, _⟩ := hx
    exact ⟨rfl, rfl⟩
  generalize msgOf x = m at *
  generalize mT m = u at *
  generalize mE m = ue at *
  generalize pT false inc seq u = a1 at *
  generalize pT true inc seq u = a2 at *
  generalize pT false inc seq .empty = a3 at *
  generalize pT true inc seq .empty = a4 at *
  generalize pE false inc seq u = b1 at *
  generalize pE true inc seq u = b2 at *
  generalize pE false inc seq .empty = b3 at *
  generalize pE true inc seq .empty = b4 at *
  unfold xArg at e1 ⊢
  dsimp only [Try.f3, Option.getD]
  cases g : msgGood m <;> rw [g] at e6 e7 <;>
  simp only [reduceIte, reduceCtorEq, Nat.reduceAdd, Nat.reduceMul, Nat.reduceSub, Nat.reduceEqDiff, Nat.reduceLT, Nat.reduceLeDiff, Nat.reduceBEq, Int.reduceLT, Int.reduceLE, Int.reduceEq,
    Int.reduceNe, Int.reduceAdd, Int.reduceSub, Int.reduceMul, Int.reduceToNat, push_cast, pairsOk, locGet, locSet, nextGen, X_loop, p2_int, intBin, p2_str, strBin, p2_bool Try.underlying4, idx_lit elemSize_52, idx_lit elemSize_53, len_lit Try.underlying52, len_lit Try.underlying53, zerosA, List.range, List.range.loop, Nat.zero_mod, getT, e1, e3, e4, e5, e6, e7, e8 false, e8 true, e9 false, e9 true, e8e false, e8e true, e9e false, e9e true, hb1.1, hb1.2, hb2.1, hb2.2]
end Go.Proofs.Ytmglahnoemgieaa.Ax
