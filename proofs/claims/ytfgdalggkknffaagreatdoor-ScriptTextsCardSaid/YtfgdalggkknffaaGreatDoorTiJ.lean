/- The ties of this seat's laid variables, in parts: each by the kernel. No condition. -/
import Derived.Test.YtfgdalggkknffaaGreatDoorTiA
import Derived.Test.YtfgdalggkknffaaGreatDoorTiB
import Derived.Test.YtfgdalggkknffaaGreatDoorTiC
import Derived.Test.YtfgdalggkknffaaGreatDoorTiD
import Derived.Test.YtfgdalggkknffaaGreatDoorTiE
import Derived.Test.YtfgdalggkknffaaGreatDoorTiF
import Derived.Test.YtfgdalggkknffaaGreatDoorTiG
set_option linter.all false
namespace Go.Proofs.YtfgdalggkknffaaGreatDoor
open Go
set_option maxRecDepth 100000
theorem tie_all : Tryz.prog.laidByTextLater tieL [.data, .sentinel, .sentinel, .data, .data, .data] true :=
  Program.laidByTextLater_by_run 400 8 tie_hw tie_hw2 tie_hroot tie_hk tie_hg tie_hn tie_hd tie_h1 tie_h2 tie_hp
theorem own_tie_scriptQuotes : Rows.scriptQuotesRow.laidByTextAt .later Tryz.pinned [.pinned, .data, .sentinel, .sentinel, .data, .data, .data] true :=
  OpenClaim.laidByTextAt_pinned rfl rfl tie_all rfl rfl rfl rfl (fun y hy _e => by
    simp only [Rows.scriptQuotesRow, List.zip_cons_cons, List.zip_nil_right, List.mem_cons, List.mem_nil_iff, or_false] at hy
    rcases hy with rfl | rfl | rfl | rfl | rfl | rfl | rfl
    · exact ⟨tie_pin_laid_unicode_utf8_first, by kernel_rfl⟩
    · cases _e
    · cases _e
    · cases _e
    · cases _e
    · cases _e
    · cases _e) tie_fits
theorem own_tie_scriptParses : Rows.scriptParsesRow.laidByTextAt .later Tryz.pinned [.pinned, .data, .sentinel, .sentinel, .data, .data, .data] true :=
  OpenClaim.laidByTextAt_pinned rfl rfl tie_all rfl rfl rfl rfl (fun y hy _e => by
    simp only [Rows.scriptParsesRow, List.zip_cons_cons, List.zip_nil_right, List.mem_cons, List.mem_nil_iff, or_false] at hy
    rcases hy with rfl | rfl | rfl | rfl | rfl | rfl | rfl
    · exact ⟨tie_pin_laid_unicode_utf8_first, by kernel_rfl⟩
    · cases _e
    · cases _e
    · cases _e
    · cases _e
    · cases _e
    · cases _e) tie_fits
theorem own_tie_scriptTexts : Rows.scriptTextsRow.laidByTextAt .later Tryz.pinned [.pinned, .data, .sentinel, .sentinel, .data, .data, .data] true :=
  OpenClaim.laidByTextAt_pinned rfl rfl tie_all rfl rfl rfl rfl (fun y hy _e => by
    simp only [Rows.scriptTextsRow, List.zip_cons_cons, List.zip_nil_right, List.mem_cons, List.mem_nil_iff, or_false] at hy
    rcases hy with rfl | rfl | rfl | rfl | rfl | rfl | rfl
    · exact ⟨tie_pin_laid_unicode_utf8_first, by kernel_rfl⟩
    · cases _e
    · cases _e
    · cases _e
    · cases _e
    · cases _e
    · cases _e) tie_fits
end Go.Proofs.YtfgdalggkknffaaGreatDoor

