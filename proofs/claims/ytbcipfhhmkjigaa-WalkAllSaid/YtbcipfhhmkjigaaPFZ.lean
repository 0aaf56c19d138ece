/- All functions that are printed. -/
import Derived.Test.YtbcipfhhmkjigaaPF3
