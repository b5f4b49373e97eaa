/- What the sets' texts need of packages norm and class, for a seat that has neither. -/
import Derived.Test.YtoeepbjnbgpmpaaLexG
import Derived.Test.YtoeepbjnbgpmpaaRdA
import Derived.Test.YtoeepbjnbgpmpaaMA
import Derived.Deep.RegionHeld3
import Derived.Laws.RangeAny
import Derived.Laws.MakeOwn
import Derived.KernelRfl
namespace Go.Proofs.Ytoeepbjnbgpmpaa
set_option linter.all false
open Go Go.RowKit

abbrev cFor : ByteArray := ⟨#[102, 111, 114]⟩
abbrev cUpdate : ByteArray := ⟨#[117, 112, 100, 97, 116, 101]⟩
abbrev cInsert : ByteArray := ⟨#[105, 110, 115, 101, 114, 116]⟩
abbrev cDelete : ByteArray := ⟨#[100, 101, 108, 101, 116, 101]⟩
abbrev cMerge : ByteArray := ⟨#[109, 101, 114, 103, 101]⟩
abbrev cInto : ByteArray := ⟨#[105, 110, 116, 111]⟩
abbrev cTrunc : ByteArray := ⟨#[116, 114, 117, 110, 99, 97, 116, 101]⟩
abbrev cSelect : ByteArray := ⟨#[115, 101, 108, 101, 99, 116]⟩
abbrev cValues : ByteArray := ⟨#[118, 97, 108, 117, 101, 115]⟩
abbrev cTable : ByteArray := ⟨#[116, 97, 98, 108, 101]⟩
theorem tl_const (x : ByteArray) (c : ByteArray) (l : List UInt8) (h : c.toList = l) : (x.toList == l) = decide (x = c) := by rw [← h]; exact tl_beq x c
theorem noTl : (⟨#[]⟩ : ByteArray).toList = [] := by first | rfl | decide | (rw [ByteArray.toList_eq]) | simp
theorem KStrT : KeyT Try.prog 9 Value.string := keyT_string Try.underlying9
theorem mapHa : Try.prog.underlying 99 = some (.map 9 3) := Try.underlying99
theorem zeroInt (w : World) : (zeroValue 3).run Try.prog w = .ok (.int .i64 0) w := by kernel_rfl
def hents (l : List (ByteArray × Int)) : List (ByteArray × Value) := l.map fun x => (x.1, .int .i64 x.2)
theorem hents_get (c : ByteArray) (l : List (ByteArray × Int)) : mget c (hents l) = (mget c l).map (Value.int .i64) := mget_map (Value.int .i64) c l
theorem hents_put (c : ByteArray) (v : Int) (l : List (ByteArray × Int)) : mput c (.int .i64 v) (hents l) = hents (mput c v l) := mput_map (Value.int .i64) c v l

end Go.Proofs.Ytoeepbjnbgpmpaa
