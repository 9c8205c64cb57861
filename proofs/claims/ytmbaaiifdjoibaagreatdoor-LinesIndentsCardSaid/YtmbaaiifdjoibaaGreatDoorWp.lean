/- The program's functions as formulas; each is checked by the kernel against its translation. Printed by a program of the prover's own. -/
import Derived.Test.YtmbaaiifdjoibaaGreatDoorIr
set_option maxRecDepth 100000
namespace Go.SV
open Go.Proofs

variable {T : Nat → Option Entry}

-- grille/grillelaw05.LinesIndents
def w3 (D : Den) (Q : AV → AH → Prop) (x0 x1 : AV) (H : AH) : Prop :=
 cP D 4 [] H fun x7 H1 =>
 gP (aNot x7) fun x8 =>
 iP x8
 ( Q (.bool false) H1)
 ( gP (aLen .str x0 H1) fun x10 =>
 gP (aBin .gtr x10 (.int .i64 2000)) fun x11 =>
 iP x11
 ( Q (.bool true) H1)
 ( cP D 5 [x0] H1 fun x13 H2 =>
 gP (aCv .i64 x1) fun x15 =>
 gP (aBin .rem x15 (.int .i64 40)) fun x16 =>
 cP D 6 [(.str [32]), x16] H2 fun x18 H3 =>
 gP (aBin .add x18 x0) fun x20 =>
 cP D 5 [x20] H3 fun x21 H4 =>
 gP (aBin .add x16 x13) fun x24 =>
 gP (aBin .eql x21 x24) fun x25 =>
 dP x25 true
 ( gP (aBin .add (.str [120]) x0) fun x28 =>
 cP D 5 [x28] H4 fun x29 H5 =>
 gP (aBin .eql x29 (.int .i64 0)) fun x30 =>
 dP x30 true
 ( gP (aBin .add (.str [9]) x0) fun x34 =>
 cP D 5 [x34] H5 fun x35 H6 =>
 gP (aBin .eql x35 (.int .i64 0)) fun x36 =>
 dP x36 true
 ( gP (aLen .str x0 H6) fun x41 =>
 gP (aBin .eql x13 x41) fun x42 =>
 dP x42 false
 ( gP (aIdxStr x0 x13) fun x46 =>
 gP (aBin .neq x46 (.int .u8 32)) fun x47 =>
 Q x47 H6)
 ( Q (.bool true) H6))
 ( Q (.bool false) H6))
 ( Q (.bool false) H5))
 ( Q (.bool false) H4)))
theorem w3_eq : w3 = fun D Q x0 x1 H => wpF D ir3 [x0, x1] H Q := by kernel_rfl
theorem w3_ok (hT : Has T) {x0 x1 : AV} {H : AH} {Q : AV → AH → Prop} (h : w3 (Den.of T) Q x0 x1 H) : ∃ v H', Den.of T 3 [x0, x1] H = some (v, H') ∧ Q v H' :=
  wpF_ok (hT _ ir3 rfl) (by rw [w3_eq] at h; exact h)

-- grille/grillelaw05.alive
-- grille/lines.Indent
def w5 (D : Den) (Q : AV → AH → Prop) (x0 : AV) (H : AH) : Prop :=
 gP (aLen .str x0 H) fun x4 =>
 cP D 8 [x0, (.str [32])] H fun x6 H1 =>
 gP (aLen .str x6 H1) fun x7 =>
 gP (aBin .sub x4 x7) fun x8 =>
 Q x8 H1
theorem w5_eq : w5 = fun D Q x0 H => wpF D ir5 [x0] H Q := by kernel_rfl
theorem w5_ok (hT : Has T) {x0 : AV} {H : AH} {Q : AV → AH → Prop} (h : w5 (Den.of T) Q x0 H) : ∃ v H', Den.of T 5 [x0] H = some (v, H') ∧ Q v H' :=
  wpF_ok (hT _ ir5 rfl) (by rw [w5_eq] at h; exact h)

-- grille/lines.Read
-- strings.HasPrefix
-- (*strings.Builder).WriteString
-- strings.Split
-- (*grille/lines.reader).next
-- grille/lines.mark
-- (*grille/lines.reader).line
-- internal/stringslite.HasPrefix
-- strings.genSplit
-- strings.CutPrefix
-- grille/lex.Words
-- (*grille/lines.reader).literal
-- unicode/utf8.DecodeRuneInString
-- strings.explode
-- internal/stringslite.CutPrefix
-- grille/lex.Words$1
-- grille/text.May
-- strings.ContainsFunc
-- (*grille/lex.line).remark
-- (*grille/lex.line).next
-- grille/lines.blank
-- grille/lines.strange
-- unicode/utf8.RuneCountInString
-- unicode/utf8.ValidRune
-- strings.IndexFunc
-- (*grille/lex.line).rest
-- (*grille/lex.line).quoted
-- grille/scalar.Unquote
-- grille/scalar.Unsingle
-- (*grille/lex.line).named
-- (*grille/lex.line).dashes
-- (*grille/lex.line).bar
-- grille/lex.colon
-- (*grille/lex.line).plain
-- (*grille/lex.line).take
-- strings.indexFunc
-- grille/scalar.End
-- grille/scalar.escape
-- (*strings.Builder).WriteRune
-- (*strings.Builder).WriteByte
-- grille/scalar.Single
-- (*grille/lex.line).up
-- (*grille/lex.line).named$1
-- grille/lex.stops
-- grille/tag.Read
-- grille/lex.Name
-- (*grille/lex.line).bar$1
-- (*grille/lex.line).plain$1
-- grille/scalar.Plain
-- grille/scalar.means
-- grille/scalar.number
-- unicode/utf8.AppendRune
-- grille/scalar.Single$1
-- grille/tag.Core
-- grille/tag.own
-- grille/lex.Name$1
-- grille/scalar.Plain$1
-- grille/scalar.hasAny
-- strings.HasSuffix
-- strconv.ParseUint
-- unicode/utf8.appendRuneNonASCII
-- grille/tag.plain
-- grille/tag.own$1
-- grille/tag.named
-- internal/stringslite.HasSuffix
-- internal/strconv.ParseUint
-- internal/strconv.lower
-- internal/strconv.underscoreOK
end Go.SV
