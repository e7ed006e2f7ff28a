/-
  RefLines: the document's lines of a text: the walk of headgateref06.Lines.
-/
import Derived.Test.YtenihlicjahjhaaRefLaw
set_option linter.unusedVariables false
set_option linter.unusedSimpArgs false
namespace Go.Proofs.Ytenihlicjahjhaa
open Go Go.RowKit Go.Proofs Go.Shelf

theorem infoStr : (Try.prog.info? 9).map (fun i => (i.zero, i.size, i.bytes)) = some (some (.string ⟨#[]⟩), 1, 16) := by kernel_rfl

/-- the first c lines, as cells -/
def lineCells (s : List UInt8) (c : Nat) : List Value := (List.range c).map fun k => .string ⟨(lineOf s k).toArray⟩

theorem lineCells_succ (s : List UInt8) (c : Nat) : lineCells s (c + 1) = lineCells s c ++ [.string ⟨(lineOf s c).toArray⟩] := by simp [lineCells, List.range_succ]
theorem lineCells_length (s : List UInt8) (c : Nat) : (lineCells s c).length = c := by simp [lineCells]

theorem own_block_ge {w : World} {base : Nat} {e : TypeId} {size : Nat} {v : Value} {n : Nat} {xs : List Value} (h : w.ownsRow base e size v n xs) : ∀ r, v.ownBlock = some r → base ≤ r := by
  intro r hr
  obtain ⟨h1, h2⟩ := h
  rcases h2 with h2 | ⟨g, cap, cur, hv, hg, hh, _⟩
  · obtain ⟨rfl, _⟩ := h2
    cases hr
  · subst hv
    obtain rfl : g = r := by simpa [Value.ownBlock] using hr
    exact hg

set_option maxRecDepth 100000 in
theorem RefLines_calls (s : List UInt8) (w : World) (hs : s.length ≤ 65536) :
    Calls Try.prog 117 #[.string ⟨s.toArray⟩] w fun e w' => ∃ v, e = .returned v ∧ w'.ownsRow w.heap.size 9 1 v (nlines s) (lineCells s (nlines s)) ∧ Below w.heap.size w w' := by
  obtain ⟨i0, hi, hz0, hz1, hz2⟩ := info_parts infoStr
  have hnl := nlines_le s
  go_enter Try.func117, Try.ntmps117
  go_wp2_with fail
  go_loopg [3, 4, 5] s.length (fun k v f q wr => ∃ c i : Nat, f = .int .i64 (begAt c s) ∧ q = .int .i64 i ∧ AtByte s c i ∧ wr.ownsRow w.heap.size 9 1 v c (lineCells s c) ∧ Below w.heap.size w wr ∧ k = s.length - i)
  case atStart => exact ⟨0, 0, rfl, rfl, AtByte.start s, World.ownsRow_nil _ _ _ _, Below.refl _ _, rfl⟩
  case round =>
    obtain ⟨c, i, rfl, rfl, hat, hown, hbel, hk⟩ := hrel
    have Hat := Lib.hid hat
    have Hown := Lib.hid hown
    have Hk := Lib.hid hk
    have hle := hat.le
    have hcl := hat.nl
    have hil := hat.len
    clear hat hown hk
    by_cases hlt : (i : Int) < s.length
    · have hin : i < s.length := by omega
      by_cases hb : s[i]'hin = 10
      · have hb2 : ((((⟨s.toArray⟩ : ByteArray)[i]'hin).toNat : Int) == 10) = true := by
          rw [beq_iff_eq]; show ((s[i]'hin).toNat : Int) = 10; rw [hb]; rfl
        have Hb := Lib.hid hb
        clear hb
        go_wp2_with (at_builtin; refine wpList_append_own _ rfl _ _ 85 rfl w.heap.size 9 i0 (.string ⟨#[]⟩) 1 16 Try.underlying85 hi hz0 hz1 hz2 rfl (by decide) _ _ _ rfl (Hown.out.alloc _) ⟨wr.heap.size, 0, none⟩ 1 1 [.string ((⟨s.toArray⟩ : ByteArray).extract (begAt c s) (i + 1))] rfl rfl ?c1 ?c2 ?c3 ?c4 ?c5 ?_)
        case c1 =>
          intro j u hj
          exact cells_new _ _ _ j u hj
        case c2 => intro u hu; simp at hu; subst hu; rfl
        case c3 => unfold maxLen; omega
        case c4 => omega
        case c5 => have := hbel.size; rw [World.size_alloc]; omega
        intro v' w1 hown' hgrow _
        have hbel' : Below w.heap.size w w1 := (hbel.alloc hbel.size _).grown hgrow (by have := hbel.size; rw [World.size_alloc]; omega) (fun r hr => own_block_ge Hown.out r hr)
        obtain ⟨hB, hline, hat'⟩ := Hat.out.feed hin (by rw [List.getElem?_eq_getElem hin, Hb.out])
        rw [extract_str, ← hline, ← lineCells_succ] at hown'
        have Hown' := Lib.hid hown'
        have Hat' := Lib.hid hat'
        have HB := Lib.hid hB
        clear hown' hgrow hat' hB hline
        go_wp2_with fail
        go_roundg (s.length - (i + 1))
        case measure => have := Hk.out; omega
        case rel => exact ⟨c + 1, i + 1, by rw [HB.out, Int.natCast_add]; rfl, by rw [Int.natCast_add]; rfl, Hat'.out, Hown'.out, hbel', rfl⟩
      · have hb2 : ((((⟨s.toArray⟩ : ByteArray)[i]'hin).toNat : Int) == 10) = false := by
          rw [beq_eq_false_iff_ne]
          exact fun e => hb (UInt8.toNat_inj.1 (by rw [show (10 : UInt8).toNat = 10 from rfl]; have : ((s[i]'hin).toNat : Int) = 10 := e; omega))
        have Hb := Lib.hid hb
        clear hb
        go_wp2_with fail
        go_roundg (s.length - (i + 1))
        case measure => have := Hk.out; omega
        case rel => exact ⟨c, i + 1, rfl, by rw [Int.natCast_add]; rfl, Hat.out.other hin (fun e => Hb.out (by rw [List.getElem?_eq_getElem hin] at e; exact Option.some.inj e)), Hown.out, hbel, rfl⟩
    · have hie : i = s.length := by omega
      subst hie
      by_cases hf : (begAt c s : Int) < s.length
      · obtain ⟨hN, hline⟩ := Hat.out.done.1 (by omega)
        have HN := Lib.hid hN
        have Hline := Lib.hid hline
        clear hN hline
        go_wp2_with (at_builtin; refine wpList_append_own _ rfl _ _ 85 rfl w.heap.size 9 i0 (.string ⟨#[]⟩) 1 16 Try.underlying85 hi hz0 hz1 hz2 rfl (by decide) _ _ _ rfl (Hown.out.alloc _) ⟨wr.heap.size, 0, none⟩ 1 1 [.string ((⟨s.toArray⟩ : ByteArray).extract (begAt c s) s.length)] rfl rfl ?c1 ?c2 ?c3 ?c4 ?c5 ?_)
        case c2 => rfl
        case c3 => unfold maxLen; omega
        case c4 => omega
        case c5 => have := hbel.size; omega
        intro v' w1 hown' hgrow _
        have hbel' : Below w.heap.size w w1 := (hbel.alloc hbel.size _).grown hgrow (by have := hbel.size; rw [World.size_alloc]; omega) (fun r hr => own_block_ge Hown.out r hr)
        rw [extract_str, List.take_length, ← Hline.out, ← lineCells_succ, ← HN.out] at hown'
        have Hown' := Lib.hid hown'
        clear hown' hgrow
        go_wp2_with fail
        go_ret
        exact ⟨v', rfl, Hown'.out, hbel'⟩
      · have hN := Hat.out.done.2 (by omega)
        have HN := Lib.hid hN
        clear hN
        go_wp2_with fail
        go_ret
        exact ⟨_, rfl, by rw [HN.out]; exact Hown.out, hbel⟩
end Go.Proofs.Ytenihlicjahjhaa
